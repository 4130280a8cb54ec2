/-
  Parts of a proof.
-/
import Derived.Deep.OwnRows
import Derived.DeepKeys4
import Derived.Laws.Externs
import Derived.Lib.AppendZeros
import Derived.Lib.AppendZerosOnto
import Derived.Lib.SlBytesConst
import Derived.MapKept
import Derived.Maps.OwnOps
import Derived.Maps.OwnSet
import Derived.Test.YtboflbdniogcdaaGreatDoorK35
set_option linter.unusedVariables false
set_option linter.unusedSimpArgs false
set_option maxRecDepth 100000
set_option maxHeartbeats 100000000
namespace Go.Proofs.YtboflbdniogcdaaGreatDoor
open Go.RowKit Go.Mz
def fI (t:List Nat) (most q:Nat) (o:List UInt8):Prop:=q≤t.length∧o.length≤most
theorem xO {W:List (List Nat)} {t:List Nat} {p k v:Nat} (hp:p≤t.length) (h:bG W [] (t.drop p)=(k,.inl v)):p+k≤t.length:=by
 have:=(ot W (t.drop p) []).2.1;rw[h,bD,bH] at this;simp only at this;omega
theorem Gp {t:List Nat} {most:Nat}:∀ (n p q:Nat) (out o:List UInt8),ev t most n p out= .inr (q,o)→fI t most p out→fI t most q o:=by
 intro n
 induction n with
 | zero=>intro p q out o h u;rw[ev] at h;cases h;exact u
 | succ n ih=>
  intro p q out o h u;rw[ev] at h
  split at h
  ·cases h
  ·split at h
   ·cases h
   ·refine ih _ _ _ _ h ⟨by omega,?_⟩;rw[ae,gY];omega
theorem Gq {t:List Nat} {most p q:Nat} {out o:List UInt8} (h:gU t most p out= .inr (q,o)) (u:fI t most p out):fI t most q o:=by
 rw[gU] at h
 split at h
 ·cases h
 ·split at h
  ·cases h
  ·exact Gp _ _ _ _ _ h ⟨by omega,u.2⟩
theorem Gr {t:List Nat} {l:List (Nat × Nat)} {i p q d:Nat} (h:dd t l i p= .inr (q,d)):q≤t.length:=by
 rw[dd] at h
 split at h
 ·cases h
 ·split at h
  ·cases h
  ·cases h;omega
theorem Gs {t:List Nat} {B:List (List Nat)} {most n p q:Nat} {out o:List UInt8} (h:ip t B most n p out= .inr (q,o)):fI t most q o:=by
 rw[ip] at h
 split at h
 ·cases h
 ·split at h
  ·cases h
  ·rename_i e;have:=Gr e
   split at h
   ·cases h
   ·split at h
    ·cases h
    ·cases h;refine⟨this,?_⟩;rw[oV];omega
theorem Gt {t:List Nat} {A B:List (List Nat)} {most p q:Nat} {out o:List UInt8} {d:Bool} (h:fG t A B most p out= .inr (q,o,d)) (u:fI t most p out):fI t most q o:=by
 rw[fG] at h
 split at h
 ·cases h
 ·rename_i k v e;have hk:=xO u.1 e
  split at h
  ·cases h;exact⟨hk,u.2⟩
  ·split at h
   ·split at h
    ·cases h
    ·cases h;refine⟨hk,?_⟩;rw[ae,gY];omega
   ·split at h
    ·cases h
    ·split at h
     ·cases h
     ·rename_i e2;cases h;exact Gs e2
theorem Gu {t:List Nat} {A B:List (List Nat)} {most:Nat}:∀ (f p q:Nat) (out o:List UInt8),dH t A B most f p out= .inr (q,o)→fI t most p out→fI t most q o:=by
 intro f
 induction f with
 | zero=>intro p q out o h;rw[dH] at h;cases h
 | succ f ih=>
  intro p q out o h u;rw[dH] at h;cases e:fG t A B most p out with
  | inl e'=>rw[e] at h;cases h
  | inr x=>
   obtain⟨q1,o1,d⟩:=x;rw[e] at h;have h1:=Gt e u;cases d with
   | true=>simp only at h;cases h;exact h1
   | false=>simp only at h;exact ih _ _ _ _ h h1
theorem xP {t:List Nat} {la lb:List Nat} {how most p q:Nat} {out o:List UInt8} (h:fR t la lb how most p out= .inr (q,o)) (u:fI t most p out):fI t most q o:=by
 rw[fR] at h
 split at h
 ·cases h
 ·split at h
  ·cases h
  ·exact Gu _ _ _ _ _ h u
theorem Gv {t:List Nat}:∀ (l:List Nat) (p q:Nat) (a b:List Nat),eO t l p a= .inr (q,b)→p≤t.length→q≤t.length:=by
 intro l
 induction l with
 | nil=>intro p q a b h u;rw[eO] at h;cases h;exact u
 | cons i l ih=>
  intro p q a b h u;rw[eO] at h
  split at h
  ·cases h
  ·exact ih _ _ _ _ h (by omega)
theorem Gw {t:List Nat} {W:List (List Nat)} {n:Nat}:∀ (f:Nat) (all:List Nat) (p q:Nat) (l:List Nat),cP t W n f all p= .inr (q,l)→p≤t.length→q≤t.length:=by
 intro f
 induction f with
 | zero=>intro all p q l h;rw[cP] at h;cases h
 | succ f ih=>
  intro all p q l h u;rw[cP] at h
  by_cases hln:all.length<n
  ·rw[if_pos hln] at h;cases hr:bG W [] (t.drop p) with
   | mk k r=>
   rw[hr] at h;cases r with
   | inr e=>cases h
   | inl v=>
    have hk:=xO u hr;simp only at h
    by_cases h16:v<16
    ·rw[if_pos h16] at h;exact ih _ _ _ _ h hk
    ·rw[if_neg h16] at h
     by_cases hb:v=16∧all=[]
     ·rw[if_pos hb] at h;cases h
     ·rw[if_neg hb] at h;generalize (if v=16 then all.getD (all.length-1) 0 else 0)=val at*
      generalize (if v=16 then 2 else if v=18 then 7 else 3)=wide at*
      generalize (if v=18 then 11 else 3)=least at*
      by_cases hc:t.length<p+k+wide
      ·rw[if_pos hc] at h;cases h
      ·rw[if_neg hc] at h;exact ih _ _ _ _ h (by omega)
  ·rw[if_neg hln] at h
   split at h
   ·cases h
   ·cases h;exact u
theorem Gx {t:List Nat} {most p q:Nat} {out o:List UInt8} (h:gV t most p out= .inr (q,o)) (u:fI t most p out):fI t most q o:=by
 rw[gV] at h
 split at h
 ·cases h
 ·simp only at h
  split at h
  ·cases h
  ·split at h
   ·cases h
   ·rename_i e1;have h1:=Gv _ _ _ _ _ e1 (by omega)
    split at h
    ·cases h
    ·split at h
     ·cases h
     ·rename_i e2;have h2:=Gw _ _ _ _ _ e2 h1
      split at h
      ·cases h
      ·exact xP h ⟨h2,u.2⟩
theorem Gy {t:List Nat} {most hd p q:Nat} {out o:List UInt8} (h:eS t most hd p out= .inr (q,o)) (u:fI t most p out):fI t most q o:=by
 rw[eS] at h
 split at h
 ·exact Gq h u
 ·split at h
  ·exact xP h u
  ·split at h
   ·exact Gx h u
   ·cases h
theorem Gz {t:List Nat} {most:Nat}:∀ (f p q:Nat) (out o:List UInt8),inflF t most f p out= .inr (q,o)→fI t most p out→fI t most q o:=by
 intro f
 induction f with
 | zero=>intro p q out o h;rw[inflF] at h;cases h
 | succ f ih=>
  intro p q out o h u;rw[inflF] at h
  split at h
  ·cases h
  ·cases e:eS t most (vl t p 3/2) (p+3) out with
   | inl e'=>rw[e] at h;cases h
   | inr x=>
    obtain⟨q1,o1⟩:=x;rw[e] at h;have h1:=Gy e ⟨by omega,u.2⟩;simp only at h
    split at h
    ·cases h;exact h1
    ·exact ih _ _ _ _ h h1
theorem GA {bs:List UInt8} {most:Int} {o:List UInt8} {n:Nat} (h:fH bs most= .inr (o,n)):n≤bs.length∧(o.length:Int)≤most:=by
 rw[fH] at h
 split at h
 ·cases h
 ·cases e:inflF (aF true bs) most.toNat (8*bs.length+1) 0 [] with
  | inl e'=>rw[e] at h;cases h
  | inr x=>
   obtain⟨q,o1⟩:=x;rw[e] at h;obtain⟨h1,h2⟩:=Gz _ _ _ _ _ e ⟨by omega,by simp⟩;cases h;rw[eg] at h1;exact⟨by omega,by omega⟩
theorem sx {W:List (List Nat)} {e:Nat}:∀ (r s:List Nat) (k:Nat),bG W s r=(k,.inr e)→e≠0:=by
 intro r
 induction r with
 | nil=>intro s k h;rw[bG] at h;cases h;decide
 | cons c r ih=>
  intro s k h;rw[bG] at h
  split at h
  ·cases h
  ·split at h
   ·exact ih _ _ h
   ·cases h;decide
theorem GB {t:List Nat} {most e:Nat}:∀ (n p:Nat) (out:List UInt8),ev t most n p out= .inl e→e≠0:=by
 intro n
 induction n with
 | zero=>intro p out h;rw[ev] at h;cases h
 | succ n ih=>
  intro p out h;rw[ev] at h
  split at h
  ·cases h;decide
  ·split at h
   ·cases h;decide
   ·exact ih _ _ h
theorem GC {t:List Nat} {most p e:Nat} {out:List UInt8} (h:gU t most p out= .inl e):e≠0:=by
 rw[gU] at h
 split at h
 ·cases h;decide
 ·split at h
  ·cases h;decide
  ·exact GB _ _ _ h
theorem xQ {t:List Nat} {l:List (Nat × Nat)} {i p e:Nat} (h:dd t l i p= .inl e):e≠0:=by
 rw[dd] at h
 split at h
 ·cases h;decide
 ·split at h
  ·cases h;decide
  ·cases h
theorem GD {t:List Nat} {B:List (List Nat)} {most n p e:Nat} {out:List UInt8} (h:ip t B most n p out= .inl e):e≠0:=by
 rw[ip] at h
 split at h
 ·rename_i e1;cases h;exact sx _ _ _ e1
 ·split at h
  ·rename_i e2;cases h;exact xQ e2
  ·split at h
   ·cases h;decide
   ·split at h
    ·cases h;decide
    ·cases h
theorem GE {t:List Nat} {A B:List (List Nat)} {most p e:Nat} {out:List UInt8} (h:fG t A B most p out= .inl e):e≠0:=by
 rw[fG] at h
 split at h
 ·rename_i e1;cases h;exact sx _ _ _ e1
 ·split at h
  ·cases h
  ·split at h
   ·split at h
    ·cases h;decide
    ·cases h
   ·split at h
    ·rename_i e2;cases h;exact xQ e2
    ·split at h
     ·rename_i e2;cases h;exact GD e2
     ·cases h
theorem GF {t:List Nat} {A B:List (List Nat)} {most e:Nat}:∀ (f p:Nat) (out:List UInt8),dH t A B most f p out= .inl e→e≠0:=by
 intro f
 induction f with
 | zero=>intro p out h;rw[dH] at h;cases h;decide
 | succ f ih=>
  intro p out h;rw[dH] at h;cases e1:fG t A B most p out with
  | inl e'=>rw[e1] at h;cases h;exact GE e1
  | inr x=>
   obtain⟨q1,o1,d⟩:=x;rw[e1] at h;cases d with
   | true=>cases h
   | false=>exact ih _ _ h
theorem xR {t:List Nat} {la lb:List Nat} {how most p e:Nat} {out:List UInt8} (h:fR t la lb how most p out= .inl e):e≠0:=by
 rw[fR] at h
 split at h
 ·rename_i e1;cases h;exact rY e1
 ·split at h
  ·rename_i e1;cases h;exact rY e1
  ·exact GF _ _ _ h
theorem GG {t:List Nat} {e:Nat}:∀ (l:List Nat) (p:Nat) (a:List Nat),eO t l p a= .inl e→e≠0:=by
 intro l
 induction l with
 | nil=>intro p a h;rw[eO] at h;cases h
 | cons i l ih=>
  intro p a h;rw[eO] at h
  split at h
  ·cases h;decide
  ·exact ih _ _ h
theorem GH {t:List Nat} {W:List (List Nat)} {n e:Nat}:∀ (f:Nat) (all:List Nat) (p:Nat),cP t W n f all p= .inl e→e≠0:=by
 intro f
 induction f with
 | zero=>intro all p h;rw[cP] at h;cases h;decide
 | succ f ih=>
  intro all p h;rw[cP] at h
  by_cases hln:all.length<n
  ·rw[if_pos hln] at h;cases hr:bG W [] (t.drop p) with
   | mk k r=>
   rw[hr] at h;cases r with
   | inr e=>cases h;exact sx _ _ _ hr
   | inl v=>
    simp only at h
    by_cases h16:v<16
    ·rw[if_pos h16] at h;exact ih _ _ h
    ·rw[if_neg h16] at h
     by_cases hb:v=16∧all=[]
     ·rw[if_pos hb] at h;cases h;decide
     ·rw[if_neg hb] at h;generalize (if v=16 then all.getD (all.length-1) 0 else 0)=val at*
      generalize (if v=16 then 2 else if v=18 then 7 else 3)=wide at*
      generalize (if v=18 then 11 else 3)=least at*
      by_cases hc:t.length<p+k+wide
      ·rw[if_pos hc] at h;cases h;decide
      ·rw[if_neg hc] at h;exact ih _ _ h
  ·rw[if_neg hln] at h
   split at h
   ·cases h;decide
   ·cases h
theorem GI {t:List Nat} {most p e:Nat} {out:List UInt8} (h:gV t most p out= .inl e):e≠0:=by
 rw[gV] at h
 split at h
 ·cases h;decide
 ·simp only at h
  split at h
  ·cases h;decide
  ·split at h
   ·rename_i e1;cases h;exact GG _ _ _ e1
   ·split at h
    ·rename_i e1;cases h;exact rY e1
    ·split at h
     ·rename_i e1;cases h;exact GH _ _ _ e1
     ·split at h
      ·cases h;decide
      ·exact xR h
theorem GJ {t:List Nat} {most hd p e:Nat} {out:List UInt8} (h:eS t most hd p out= .inl e):e≠0:=by
 rw[eS] at h
 split at h
 ·exact GC h
 ·split at h
  ·exact xR h
  ·split at h
   ·exact GI h
   ·cases h;decide
theorem GK {t:List Nat} {most e:Nat}:∀ (f p:Nat) (out:List UInt8),inflF t most f p out= .inl e→e≠0:=by
 intro f
 induction f with
 | zero=>intro p out h;rw[inflF] at h;cases h;decide
 | succ f ih=>
  intro p out h;rw[inflF] at h
  split at h
  ·cases h;decide
  ·cases e1:eS t most (vl t p 3/2) (p+3) out with
   | inl e'=>rw[e1] at h;cases h;exact GJ e1
   | inr x=>
    obtain⟨q1,o1⟩:=x;rw[e1] at h;simp only at h
    split at h
    ·cases h
    ·exact ih _ _ h
theorem GL {bs:List UInt8} {most:Int} {e:Nat} (h:fH bs most= .inl e):e≠0:=by
 rw[fH] at h
 split at h
 ·cases h;decide
 ·cases e1:inflF (aF true bs) most.toNat (8*bs.length+1) 0 [] with
  | inl e'=>rw[e1] at h;cases h;exact GK _ _ _ e1
  | inr x=>
   obtain⟨q,o1⟩:=x;rw[e1] at h;cases h
end Go.Proofs.YtboflbdniogcdaaGreatDoor
