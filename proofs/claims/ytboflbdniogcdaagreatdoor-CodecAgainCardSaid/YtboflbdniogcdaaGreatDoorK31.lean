/-
  Parts of a proof.
-/
import Derived.Test.YtboflbdniogcdaaGreatDoorK00
import Derived.Deep.OwnRows
import Derived.DeepKeys4
import Derived.Laws.Externs
import Derived.Lib.AppendZeros
import Derived.Lib.AppendZerosOnto
import Derived.Lib.SlBytesConst
import Derived.MapKept
import Derived.Maps.OwnOps
import Derived.Maps.OwnSet
import Derived.Test.YtboflbdniogcdaaGreatDoorK29
set_option linter.unusedVariables false
set_option linter.unusedSimpArgs false
set_option maxRecDepth 100000
set_option maxHeartbeats 100000000
namespace Go.Proofs.YtboflbdniogcdaaGreatDoor
open Go.RowKit Go.Mz
def fM (t:List Nat) (most q:Nat) (o:List UInt8):Prop:=q≤t.length∧o.length≤most
theorem za {W:List (List Nat)} {t:List Nat} {p k v:Nat} (hp:p≤t.length) (h:aX W [] (t.drop p)=(k,.inl v)):p+k≤t.length:=by
 have:=(iT W (t.drop p) []).2.1;rw[h,bI,a8] at this;simp only at this;omega
theorem Ht {t:List Nat} {most:Nat}:∀ (n p q:Nat) (out o:List UInt8),fi t most n p out= .inr (q,o)→fM t most p out→fM t most q o:=by
 intro n
 induction n with
 | zero=>intro p q out o h u;rw[fi] at h;cases h;exact u
 | succ n ih=>
  intro p q out o h u;rw[fi] at h
  split at h
  ·cases h
  ·split at h
   ·cases h
   ·refine ih _ _ _ _ h ⟨by omega,?_⟩;rw[ae,eI];omega
theorem Hu {t:List Nat} {most p q:Nat} {out o:List UInt8} (h:jC t most p out= .inr (q,o)) (u:fM t most p out):fM t most q o:=by
 rw[jC] at h
 split at h
 ·cases h
 ·split at h
  ·cases h
  ·exact Ht _ _ _ _ _ h ⟨by omega,u.2⟩
theorem Hv {t:List Nat} {l:List (Nat × Nat)} {i p q d:Nat} (h:dD t l i p= .inr (q,d)):q≤t.length:=by
 rw[dD] at h
 split at h
 ·cases h
 ·split at h
  ·cases h
  ·cases h;omega
theorem Hw {t:List Nat} {B:List (List Nat)} {most n p q:Nat} {out o:List UInt8} (h:ja t B most n p out= .inr (q,o)):fM t most q o:=by
 rw[ja] at h
 split at h
 ·cases h
 ·split at h
  ·cases h
  ·rename_i e;have:=Hv e
   split at h
   ·cases h
   ·split at h
    ·cases h
    ·cases h;refine⟨this,?_⟩;rw[qk];omega
theorem Hx {t:List Nat} {A B:List (List Nat)} {most p q:Nat} {out o:List UInt8} {d:Bool} (h:gS t A B most p out= .inr (q,o,d)) (u:fM t most p out):fM t most q o:=by
 rw[gS] at h
 split at h
 ·cases h
 ·rename_i k v e;have hk:=za u.1 e
  split at h
  ·cases h;exact⟨hk,u.2⟩
  ·split at h
   ·split at h
    ·cases h
    ·cases h;refine⟨hk,?_⟩;rw[ae,eI];omega
   ·split at h
    ·cases h
    ·split at h
     ·cases h
     ·rename_i e2;cases h;exact Hw e2
theorem Hy {t:List Nat} {A B:List (List Nat)} {most:Nat}:∀ (f p q:Nat) (out o:List UInt8),eO t A B most f p out= .inr (q,o)→fM t most p out→fM t most q o:=by
 intro f
 induction f with
 | zero=>intro p q out o h;rw[eO] at h;cases h
 | succ f ih=>
  intro p q out o h u;rw[eO] at h;cases e:gS t A B most p out with
  | inl e'=>rw[e] at h;cases h
  | inr x=>
   obtain⟨q1,o1,d⟩:=x;rw[e] at h;have h1:=Hx e u;cases d with
   | true=>simp only at h;cases h;exact h1
   | false=>simp only at h;exact ih _ _ _ _ h h1
theorem zb {t:List Nat} {la lb:List Nat} {how most p q:Nat} {out o:List UInt8} (h:hU t la lb how most p out= .inr (q,o)) (u:fM t most p out):fM t most q o:=by
 rw[hU] at h
 split at h
 ·cases h
 ·split at h
  ·cases h
  ·exact Hy _ _ _ _ _ h u
theorem Hz {t:List Nat}:∀ (l:List Nat) (p q:Nat) (a b:List Nat),fW t l p a= .inr (q,b)→p≤t.length→q≤t.length:=by
 intro l
 induction l with
 | nil=>intro p q a b h u;rw[fW] at h;cases h;exact u
 | cons i l ih=>
  intro p q a b h u;rw[fW] at h
  split at h
  ·cases h
  ·exact ih _ _ _ _ h (by omega)
theorem Ia {t:List Nat} {W:List (List Nat)} {n:Nat}:∀ (f:Nat) (all:List Nat) (p q:Nat) (l:List Nat),dv t W n f all p= .inr (q,l)→p≤t.length→q≤t.length:=by
 intro f
 induction f with
 | zero=>intro all p q l h;rw[dv] at h;cases h
 | succ f ih=>
  intro all p q l h u;rw[dv] at h
  by_cases hln:all.length<n
  ·rw[if_pos hln] at h;cases hr:aX W [] (t.drop p) with
   | mk k r=>
   rw[hr] at h;cases r with
   | inr e=>cases h
   | inl v=>
    have hk:=za u hr;simp only at h
    by_cases h16:v<16
    ·rw[if_pos h16] at h;exact ih _ _ _ _ h hk
    ·rw[if_neg h16] at h
     by_cases hb:v=16∧all=[]
     ·rw[if_pos hb] at h;cases h
     ·rw[if_neg hb] at h;generalize (if v=16 then all.getD (all.length-1) 0 else 0)=val at*
      generalize (if v=16 then 2 else if v=18 then 7 else 3)=wide at*
      generalize (if v=18 then 11 else 3)=least at*
      by_cases hc:t.length<p+k+wide
      ·rw[if_pos hc] at h;cases h
      ·rw[if_neg hc] at h;exact ih _ _ _ _ h (by omega)
  ·rw[if_neg hln] at h
   split at h
   ·cases h
   ·cases h;exact u
theorem Ib {t:List Nat} {most p q:Nat} {out o:List UInt8} (h:ie t most p out= .inr (q,o)) (u:fM t most p out):fM t most q o:=by
 rw[ie] at h
 split at h
 ·cases h
 ·simp only at h
  split at h
  ·cases h
  ·split at h
   ·cases h
   ·rename_i e1;have h1:=Hz _ _ _ _ _ e1 (by omega)
    split at h
    ·cases h
    ·split at h
     ·cases h
     ·rename_i e2;have h2:=Ia _ _ _ _ _ e2 h1
      split at h
      ·cases h
      ·exact zb h ⟨h2,u.2⟩
theorem Ic {t:List Nat} {most hd p q:Nat} {out o:List UInt8} (h:fX t most hd p out= .inr (q,o)) (u:fM t most p out):fM t most q o:=by
 rw[fX] at h
 split at h
 ·exact Hu h u
 ·split at h
  ·exact zb h u
  ·split at h
   ·exact Ib h u
   ·cases h
theorem Ie {t:List Nat} {most:Nat}:∀ (f p q:Nat) (out o:List UInt8),inflF t most f p out= .inr (q,o)→fM t most p out→fM t most q o:=by
 intro f
 induction f with
 | zero=>intro p q out o h;rw[inflF] at h;cases h
 | succ f ih=>
  intro p q out o h u;rw[inflF] at h
  split at h
  ·cases h
  ·cases e:fX t most (vl t p 3/2) (p+3) out with
   | inl e'=>rw[e] at h;cases h
   | inr x=>
    obtain⟨q1,o1⟩:=x;rw[e] at h;have h1:=Ic e ⟨by omega,u.2⟩;simp only at h
    split at h
    ·cases h;exact h1
    ·exact ih _ _ _ _ h h1
theorem zc {bs:List UInt8} {most:Int} {o:List UInt8} {n:Nat} (h:fY bs most= .inr (o,n)):n≤bs.length∧(o.length:Int)≤most:=by
 rw[fY] at h
 split at h
 ·cases h
 ·cases e:inflF (ag true bs) most.toNat (8*bs.length+1) 0 [] with
  | inl e'=>rw[e] at h;cases h
  | inr x=>
   obtain⟨q,o1⟩:=x;rw[e] at h;obtain⟨h1,h2⟩:=Ie _ _ _ _ _ e ⟨by omega,by simp⟩;cases h;rw[bM] at h1;exact⟨by omega,by omega⟩
end Go.Proofs.YtboflbdniogcdaaGreatDoor
