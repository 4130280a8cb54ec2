/-
  Parts of a proof.
-/
import Derived.Test.YtboflbdniogcdaaGreatDoorK00
import Derived.Deep.RegionLaw
import Derived.WalkKit
import Derived.WalkSpells
import Derived.Deep.QuietTactic
import Derived.BigQuiet
import Derived.Lib.Hide
set_option linter.unusedVariables false
set_option linter.unusedSimpArgs false
set_option maxRecDepth 100000
set_option maxHeartbeats 100000000
namespace Go.Mz
open Go.RowKit
def qp (p:Prop):Prop:=p
theorem ag {p:Prop} (h:qp p):p:=h
theorem on {p:Prop} (h:p):qp p:=h
theorem kr {P:Program} {ops:Array Oper} {rest:List Oper} {o:Oper} {a:Act} {w:World} {Q:Exit→Act→World→Prop} (src dst:TypeId) {x:Operand} (ho:o.op= .convert src dst x)
  (h:qp (wpList P ops Q (o::rest) a w)):wpList P ops Q (o::rest) a w:=h
abbrev Hl:=Nat→Option Obj
def Hl.le (h:Hl) (w:World):Prop:=∀ b o,h b=some o→w.heap[b]? =some o
def SProp:=Hl→Prop
def zA (A B:SProp):SProp:=fun h=>∃ h1 h2:Hl,(∀ b,h1 b=none∨h2 b=none)∧(∀ b,h b=(h1 b).or (h2 b))∧A h1∧B h2
instance:Mul SProp:=⟨zA⟩
def di:SProp:=fun h=>∀ b,h b=none
def blk (b:Nat) (o:Obj):SProp:=fun h=>h=fun k=>if k=b then some o else none
def iW (p:Prop):SProp:=fun h=>p∧di h
def gt {α:Type} (A:α→SProp):SProp:=fun h=>∃ x,A x h
def old (w0:World):SProp:=fun h=>h=fun k=>w0.heap[k]?
theorem fx (A B:SProp):A*B=B*A:=by
 have key:∀ A B:SProp,∀ h,(A*B) h→(B*A) h:=by
  rintro A B h ⟨h1,h2,d,u,a,b⟩;refine⟨h2,h1,fun b=>(d b).symm,fun b=> ?_,b,a⟩;rw[u b]
  rcases d b with e | e <;> simp [e]
 funext h
 exact propext ⟨key A B h,key B A h⟩
theorem bk (A B C:SProp):A*B*C=A*(B*C):=by
 funext h
 refine propext ⟨?_,?_⟩
 ·rintro⟨h12,h3,d,u,⟨h1,h2,d',u',a,b⟩,c⟩;refine⟨h1,fun k=>(h2 k).or (h3 k),fun k=> ?_,fun k=> ?_,a,⟨h2,h3,fun k=> ?_,fun k=>rfl,b,c⟩⟩
  ·rcases d' k with e | e
   ·exact .inl e
   ·rcases d k with e' | e'
    ·rw[u' k] at e';simp at e';exact .inl e'.1
    ·exact .inr (by simp [e,e'])
  ·rw[u k,u' k];cases e1:h1 k <;> cases e2:h2 k <;> cases e3:h3 k <;> simp [e1,e2,e3]
  ·rcases d k with e' | e'
   ·rw[u' k] at e';simp at e';exact .inl e'.2
   ·exact .inr e'
 ·rintro⟨h1,h23,d,u,a,⟨h2,h3,d',u',b,c⟩⟩;refine⟨fun k=>(h1 k).or (h2 k),h3,fun k=> ?_,fun k=> ?_,⟨h1,h2,fun k=> ?_,fun k=>rfl,a,b⟩,c⟩
  ·rcases d' k with e | e
   ·rcases d k with e' | e'
    ·exact .inl (by simp [e,e'])
    ·rw[u' k] at e';simp at e';exact .inr e'.2
   ·exact .inr e
  ·rw[u k,u' k];cases e1:h1 k <;> cases e2:h2 k <;> cases e3:h3 k <;> simp [e1,e2,e3]
  ·rcases d k with e' | e'
   ·exact .inl e'
   ·rw[u' k] at e';simp at e';exact .inr e'.1
theorem af (A B C:SProp):A*(B*C)=B*(A*C):=by
 rw[← bk,fx A B,bk]
instance:Std.Associative (α:=SProp) (· * ·):=⟨bk⟩
instance:Std.Commutative (α:=SProp) (· * ·):=⟨fx⟩
theorem eG (A:SProp):di*A=A:=by
 funext h
 refine propext ⟨?_,fun a=>⟨fun _=>none,h,fun _=> .inl rfl,fun _=>by simp,fun _=>rfl,a⟩⟩;rintro⟨h1,h2,d,u,e,a⟩;have:h=h2:=by funext b;rw[u b,e b];simp
 rw[this];exact a
structure St (w0 w:World) (A:SProp):Prop where
 os:w.os=w0.os
 tape:w.tape=w0.tape
 output:w.output=w0.output
 size:w0.heap.size≤w.heap.size
 sat:∃ h:Hl,A h∧h.le w
theorem St.init (w:World):St w w (old w):=⟨rfl,rfl,rfl,Nat.le_refl _,_,rfl,fun _ _ h=>h⟩
theorem St.perm {w0 w:World} {A B:SProp} (h:St w0 w A) (e:A=B):St w0 w B:=e ▸ h
theorem St.imp {w0 w:World} {A B:SProp} (h:St w0 w A) (f:∀ x,A x→B x):St w0 w B:=
 let ⟨x,a,l⟩:=h.sat;⟨h.os,h.tape,h.output,h.size,x,f x a,l⟩
theorem zB {A A' B B':SProp} (f:∀ x,A x→A' x) (g:∀ x,B x→B' x):∀ x,(A*B) x→(A'*B') x:=
 fun _ ⟨h1,h2,d,u,a,b⟩=>⟨h1,h2,d,u,f _ a,g _ b⟩
theorem St.imp_l {w0 w:World} {A A' F:SProp} (h:St w0 w (A*F)) (f:∀ x,A x→A' x):St w0 w (A'*F):=
 h.imp (zB f fun _ b=>b)
theorem St.left {w0 w:World} {A B:SProp} (h:St w0 w (A*B)):St w0 w A:=by
 obtain⟨x,⟨h1,h2,d,u,a,b⟩,l⟩:=h.sat;refine⟨h.os,h.tape,h.output,h.size,h1,a,fun k o e=>l k o ?_⟩;rw[u k,e];rfl
theorem St.right {w0 w:World} {A B:SProp} (h:St w0 w (A*B)):St w0 w B:=(h.perm (fx A B)).left
theorem St.ex {w0 w:World} {α:Type} {A:α→SProp} (h:St w0 w (gt A)):∃ x,St w0 w (A x):=
 let ⟨y,⟨x,a⟩,l⟩:=h.sat;⟨x,h.os,h.tape,h.output,h.size,y,a,l⟩
theorem St.ex_l {w0 w:World} {α:Type} {A:α→SProp} {F:SProp} (h:St w0 w (gt A*F)):∃ x,St w0 w (A x*F):=by
 obtain⟨y,⟨h1,h2,d,u,⟨x,a⟩,b⟩,l⟩:=h.sat;exact⟨x,h.os,h.tape,h.output,h.size,y,⟨h1,h2,d,u,a,b⟩,l⟩
theorem St.mk_ex_l {w0 w:World} {α:Type} {A:α→SProp} {F:SProp} (x:α) (h:St w0 w (A x*F)):St w0 w (gt A*F):=
 h.imp_l fun _ a=>⟨x,a⟩
theorem St.pure_l {w0 w:World} {p:Prop} {F:SProp} (h:St w0 w (iW p*F)):p∧St w0 w F:=by
 refine⟨?_,h.right⟩;obtain⟨y,⟨h1,h2,d,u,⟨hp,_⟩,b⟩,l⟩:=h.sat;exact hp
theorem St.mk_pure_l {w0 w:World} {p:Prop} {F:SProp} (hp:p) (h:St w0 w F):St w0 w (iW p*F):=by
 have e:St w0 w (di*F):=h.perm (eG F).symm;exact e.imp_l fun _ a=>⟨hp,a⟩
theorem St.drew {w0 w:World} {A:SProp} (h:St w0 w A):St w0 w.drew A:=⟨h.os,h.tape,h.output,h.size,h.sat⟩
theorem St.drewN {w0 w:World} {A:SProp} (h:St w0 w A) (n:Nat):St w0 (w.drewN n) A:=⟨h.os,h.tape,h.output,h.size,h.sat⟩
theorem St.at_ {w0 w:World} {b:Nat} {o:Obj} {F:SProp} (h:St w0 w (blk b o*F)):w.heap[b]? =some o:=by
 obtain⟨y,a,l⟩:=h.left.sat;obtain rfl:y=_:=a;exact l b o (by simp)
theorem St.lt {w0 w:World} {b:Nat} {o:Obj} {F:SProp} (h:St w0 w (blk b o*F)):b<w.heap.size:=by
 have:=h.at_
 rcases cf b w.heap.size with g | g
 ·exact g
 ·simp [kg g] at this
theorem St.cells {w0 w:World} {b:Nat} {c:Array Value} {e:TypeId} {fr:Nat × Nat} {F:SProp} (h:St w0 w (blk b (.cells c e fr)*F)) (i:Nat):w.cell? ⟨b,i,none⟩=c[i]? :=by
 simp [World.cell?,h.at_]
theorem St.cell {w0 w:World} {b:Nat} {c:Array Value} {e:TypeId} {fr:Nat × Nat} {F:SProp} (h:St w0 w (blk b (.cells c e fr)*F)) (i:Nat) {v:Value} (hv:c[i]? =some v):w.cell? ⟨b,i,none⟩=some v:=by
 rw[h.cells,hv]
theorem St.free {w0 w:World} {b:Nat} {c:Array Value} {e:TypeId} {F:SProp} (h:St w0 w (blk b (.cells c e (0,0))*F)) (i:Nat):w.frozen? ⟨b,i,none⟩=false:=by
 simp [World.frozen?,h.at_]
theorem St.ne {w0 w:World} {b b':Nat} {o o':Obj} {F:SProp} (h:St w0 w (blk b o*(blk b' o'*F))):b≠b':=by
 obtain⟨y,⟨h1,h2,d,u,a,⟨h3,h4,d',u',a',_⟩⟩,l⟩:=h.sat;rintro rfl;obtain rfl:h1=_:=a;obtain rfl:h3=_:=a'
 rcases d b with e | e
 ·simp at e
 ·rw[u' b] at e;simp at e
theorem St.upd {w0 w w':World} {b:Nat} {o o':Obj} {F:SProp} (h:St w0 w (blk b o*F)) (h1:w'.os=w.os) (h2:w'.tape=w.tape) (h3:w'.output=w.output)
  (h4:w.heap.size≤w'.heap.size) (h5:w'.heap[b]? =some o') (h6:∀ k,k<w.heap.size→k≠b→w'.heap[k]? =w.heap[k]?):St w0 w' (blk b o'*F):=by
 obtain⟨y,⟨x1,x2,d,u,a,f⟩,l⟩:=h.sat;obtain rfl:x1=_:=a;refine⟨h1.trans h.os,h2.trans h.tape,h3.trans h.output,cX h.size h4,fun k=>if k=b then some o' else x2 k,⟨fun k=>if k=b then some o' else none,x2,fun k=> ?_,fun k=> ?_,rfl,f⟩,fun k ob e=> ?_⟩
 ·have:=d k
  by_cases hk:k=b <;> simp_all
 ·by_cases hk:k=b <;> simp [hk]
 ·by_cases hk:k=b
  ·simp [hk] at e;rw[hk,h5,e]
  ·simp [hk] at e;have hl:=l k ob (by rw[u k];simp [hk,e]);have hlt:k<w.heap.size:=by
    rcases cf k w.heap.size with g | g
    ·exact g
    ·simp [kg g] at hl
   rw[h6 k hlt hk,hl]
theorem St.set {w0 w:World} {b:Nat} {c:Array Value} {e:TypeId} {fr:Nat × Nat} {F:SProp} (h:St w0 w (blk b (.cells c e fr)*F)) (i:Nat) (v:Value):
  St w0 (w.setCell ⟨b,i,none⟩ v) (blk b (.cells (c.setIfInBounds i v) e fr)*F):=by
 refine h.upd rfl rfl rfl (by simp) ?_ (fun k _ hk=>Below.heap_setCell _ _ _ _ hk);simp [World.setCell,Array.getElem?_modify,h.at_]
theorem St.ext {w0 w w':World} {F:SProp} (h:St w0 w F) (h1:w'.os=w.os) (h2:w'.tape=w.tape) (h3:w'.output=w.output)
  (h4:w.heap.size≤w'.heap.size) (h6:∀ k,k<w.heap.size→w'.heap[k]? =w.heap[k]?):St w0 w' F:=by
 obtain⟨y,a,l⟩:=h.sat;refine⟨h1.trans h.os,h2.trans h.tape,h3.trans h.output,cX h.size h4,y,a,fun k ob e=> ?_⟩;have hl:=l k ob e;have hlt:k<w.heap.size:=by
  rcases cf k w.heap.size with g | g
  ·exact g
  ·simp [kg g] at hl
 rw[h6 k hlt,hl]
theorem St.new {w0 w w':World} {F:SProp} {b:Nat} {o:Obj} (h:St w0 w F) (h1:w'.os=w.os) (h2:w'.tape=w.tape) (h3:w'.output=w.output)
  (h4:w.heap.size≤w'.heap.size) (hb:w.heap.size≤b) (h5:w'.heap[b]? =some o) (h6:∀ k,k<w.heap.size→w'.heap[k]? =w.heap[k]?):St w0 w' (blk b o*F):=by
 obtain⟨y,a,l⟩:=h.sat;have hnone:y b=none:=by
  cases hy:y b with
  | none=>rfl
  | some ob=>
   have:=l b ob hy;simp [kg hb] at this
 refine⟨h1.trans h.os,h2.trans h.tape,h3.trans h.output,cX h.size h4,fun k=>if k=b then some o else y k,⟨fun k=>if k=b then some o else none,y,fun k=> ?_,fun k=> ?_,rfl,a⟩,fun k ob e=> ?_⟩
 ·by_cases hk:k=b <;> simp [hk,hnone]
 ·by_cases hk:k=b <;> simp [hk]
 ·by_cases hk:k=b
  ·simp [hk] at e;rw[hk,h5,e]
  ·simp [hk] at e;exact(h.ext h1 h2 h3 h4 h6).sat.elim fun _ _=>by
    have hl:=l k ob e;have hlt:k<w.heap.size:=by
     rcases cf k w.heap.size with g | g
     ·exact g
     ·simp [kg g] at hl
    rw[h6 k hlt,hl]
theorem St.alloc {w0 w:World} {F:SProp} (h:St w0 w F) (o:Obj):St w0 (w.alloc o) (blk w.heap.size o*F):=
 h.new rfl rfl rfl (by simp) (Nat.le_refl _) (heap_alloc_new w o) (fun k hk=>Below.heap_alloc _ _ _ hk)
theorem St.drop_alloc {w0 w:World} {F:SProp} (h:St w0 w F) (o:Obj):St w0 (w.alloc o) F:=(h.alloc o).right
theorem St.old_at {w0 w:World} {F:SProp} (h:St w0 w (old w0*F)) {k:Nat} (hk:k<w0.heap.size):w.heap[k]? =w0.heap[k]? :=by
 obtain⟨y,a,l⟩:=h.left.sat;obtain rfl:y=_:=a;have e:w0.heap[k]? =some w0.heap[k]:=by simp [hk]
 rw[e];exact l k _ e
theorem St.below {w0 w:World} {F:SProp} (h:St w0 w (old w0*F)):Below w0.heap.size w0 w:=
 ⟨h.os,h.tape,h.output,h.size,fun k hk=>h.old_at hk⟩
def Stb (w0:World) (F:SProp) (p:World→Prop):Prop:=∀ w,St w0 w F→p w
theorem Stb.more {w0:World} {F:SProp} {p:World→Prop} (h:Stb w0 F p) (A:SProp):Stb w0 (A*F) p:=fun w s=>h w s.right
def Reads (w:World) (size:Nat) (v:Value) (n:Nat) (xs:List Value):Prop:=
 xs.length=n*size∧((v= .slice none 0 0∧n=0)∨∃ x cap,v= .slice (some x) n cap∧n≤cap∧cap≤maxLen∧∀ j u,xs[j]? =some u→w.cell? (x.add j)=some u)
def own (e:TypeId) (size:Nat) (v:Value) (n:Nat) (xs:List Value):SProp:=fun h=>
 xs.length=n*size∧((v= .slice none 0 0∧n=0∧di h)∨
  ∃ g cap cur,v= .slice (some ⟨g,0,none⟩) n cap∧n≤cap∧cap≤maxLen∧cur.size=cap*size∧cur.toList.take (n*size)=xs∧blk g (.cells cur e (0,0)) h)
theorem St.own_split {w0 w:World} {e:TypeId} {size:Nat} {v:Value} {n:Nat} {xs:List Value} {F:SProp} (h:St w0 w (own e size v n xs*F)):
  xs.length=n*size∧((v= .slice none 0 0∧n=0∧St w0 w F)∨
   ∃ g cap cur,v= .slice (some ⟨g,0,none⟩) n cap∧n≤cap∧cap≤maxLen∧cur.size=cap*size∧cur.toList.take (n*size)=xs∧St w0 w (blk g (.cells cur e (0,0))*F)):=by
 have hr:=h.right;obtain⟨y,⟨h1,h2,d,u,⟨hl,a⟩,f⟩,l⟩:=h.sat;refine⟨hl,?_⟩
 rcases a with ⟨a1,a2,_⟩ | ⟨g,cap,cur,a1,a2,a3,a4,a5,a6⟩
 ·exact .inl ⟨a1,a2,hr⟩
 ·exact .inr ⟨g,cap,cur,a1,a2,a3,a4,a5,h.os,h.tape,h.output,h.size,y,⟨h1,h2,d,u,a6,f⟩,l⟩
theorem St.own_blk {w0 w:World} {e:TypeId} {size:Nat} {n cap g:Nat} {xs:List Value} {cur:Array Value} {F:SProp} (h:St w0 w (blk g (.cells cur e (0,0))*F))
  (hn:n≤cap) (hc:cap≤maxLen) (hs:cur.size=cap*size) (ht:cur.toList.take (n*size)=xs):St w0 w (own e size (.slice (some ⟨g,0,none⟩) n cap) n xs*F):=
 h.imp_l fun x b=>⟨by rw[← ht,aJ,lP];rw[sV,hs];exact dW _ hn,.inr ⟨g,cap,cur,rfl,hn,hc,hs,ht,b⟩⟩
theorem St.own_nil {w0 w:World} {F:SProp} (e:TypeId) (size:Nat) (h:St w0 w F):St w0 w (own e size (.slice none 0 0) 0 []*F):=by
 have e':St w0 w (di*F):=h.perm (eG F).symm;exact e'.imp_l fun _ a=>⟨by simp,.inl ⟨rfl,rfl,a⟩⟩
theorem St.own_ne {w0 w:World} {e:TypeId} {size g cap n b:Nat} {o:Obj} {xs:List Value} {F:SProp} (h:St w0 w (blk b o*(own e size (.slice (some ⟨g,0,none⟩) n cap) n xs*F))):¬ g=b:=by
 obtain⟨y,⟨h1,h2,d,u,a,⟨h3,h4,d',u',⟨_,a'⟩,_⟩⟩,l⟩:=h.sat;rintro rfl;obtain rfl:h1=_:=a
 rcases a' with ⟨e1,_⟩ | ⟨g',cap',cur,e1,_,_,_,_,e2⟩
 ·cases e1
 ·cases e1;obtain rfl:h3=_:=e2
  rcases d g with e | e
  ·simp at e
  ·rw[u' g] at e;simp at e
theorem St.own_row {w0 w:World} {e:TypeId} {size:Nat} {v:Value} {n:Nat} {xs:List Value} {F:SProp} (h:St w0 w (own e size v n xs*F)):w.ownsRow 0 e size v n xs:=by
 obtain⟨hl,a⟩:=h.own_split;refine⟨hl,?_⟩
 rcases a with ⟨a1,a2,_⟩ | ⟨g,cap,cur,a1,a2,a3,a4,a5,a6⟩
 ·exact .inl ⟨a1,a2⟩
 ·exact .inr ⟨g,cap,cur,a1,Nat.zero_le _,a6.at_,a2,a3,a4,a5⟩
theorem St.reads {w0 w:World} {e:TypeId} {size:Nat} {v:Value} {n:Nat} {xs:List Value} {F:SProp} (h:St w0 w (own e size v n xs*F)):Reads w size v n xs:=by
 obtain⟨hl,a⟩:=h.own_split;refine⟨hl,?_⟩
 rcases a with ⟨a1,a2,_⟩ | ⟨g,cap,cur,a1,a2,a3,a4,a5,a6⟩
 ·exact .inl ⟨a1,a2⟩
 ·refine .inr ⟨_,cap,a1,a2,a3,fun j u hu=> ?_⟩;rw[Addr.add_lit,bQ,a6.cells];subst a5;rw[jn] at hu
  split at hu
  ·simpa using hu
  ·cases hu
theorem Reads.cell {w:World} {v:Value} {n:Nat} {xs:List Value} (h:Reads w 1 v n xs) {j:Nat} (hj:j<n):∃ b off cap,v= .slice (some ⟨b,off,none⟩) n cap∧w.cell? ⟨b,off+j,none⟩=xs[j]? :=by
 obtain⟨hl,⟨_,rfl⟩ | ⟨⟨b,off,spot⟩,cap,a1,a2,a3,a4⟩⟩:=h
 ·omega
 ·have hx:xs[j]? =some xs[j]:=by simp [show j<xs.length by omega]
  have h0:=a4 0 xs[0] (by simp [show 0<xs.length by omega]);have hspot:spot=none:=by simpa [Addr.add] using World.cell?_spot h0
  subst hspot;have hc:=a4 j _ hx;rw[Addr.add_lit] at hc;exact⟨b,off,cap,a1,by rw[hc,hx]⟩
theorem Reads.len_le {w:World} {v:Value} {n:Nat} {xs:List Value} {size:Nat} (h:Reads w size v n xs):n≤maxLen:=by
 obtain⟨hl,⟨rfl,rfl⟩ | ⟨x,cap,a1,a2,a3,_⟩⟩:=h
 ·exact Nat.zero_le _
 ·omega
theorem Reads.at_ {w:World} {a:Option Addr} {cap n:Nat} {xs:List Value} (h:Reads w 1 (.slice a n cap) n xs) {j:Nat} (hj:j<n):∃ b off,a=some ⟨b,off,none⟩∧w.cell? ⟨b,off+j,none⟩=xs[j]? :=by
 obtain⟨b,off,c,e,hc⟩:=h.cell hj;cases e;exact⟨b,off,rfl,hc⟩
theorem Reads.sub {w:World} {v:Value} {n:Nat} {xs:List Value} {size:Nat} (h:Reads w size v n xs):∃ a cap,v= .slice a n cap:=by
 obtain⟨hl,⟨rfl,rfl⟩ | ⟨x,cap,a1,_⟩⟩:=h
 ·exact⟨_,_,rfl⟩
 ·exact⟨_,_,a1⟩
theorem Reads.same {w w':World} {v:Value} {n:Nat} {xs:List Value} {size:Nat} (h:Reads w size v n xs) (hw:∀ a,(w.cell? a).isSome→w'.cell? a=w.cell? a):Reads w' size v n xs:=by
 obtain⟨hl,a | ⟨x,cap,a1,a2,a3,a4⟩⟩:=h
 ·exact⟨hl,.inl a⟩
 ·exact⟨hl,.inr ⟨x,cap,a1,a2,a3,fun j u hu=>by rw[hw _ (by rw[a4 j u hu];rfl)];exact a4 j u hu⟩⟩
theorem St.lit {w0 w:World} {F:SProp} (h:St w0 w F) (c:Array Value) (e:TypeId) (n:Nat) (hn:c.size=n) (hm:n≤maxLen):
  St w0 (w.alloc (.cells c e)) (own e 1 (.slice (some ⟨w.heap.size,0,none⟩) n n) n c.toList*F):=
 St.own_blk (h.alloc (.cells c e)) (Nat.le_refl _) hm (by omega) (by rw[gW];exact bU (by simp;omega))
theorem Stb.of_own {w0:World} {e:TypeId} {size:Nat} {v:Value} {n:Nat} {xs:List Value} {F:SProp}:Stb w0 (own e size v n xs*F) (fun w=>Reads w size v n xs):=fun _ h=>h.reads
theorem Stb.of_old {w0:World} {size:Nat} {v:Value} {n:Nat} {xs:List Value} (h:Reads w0 size v n xs):Stb w0 (old w0) (fun w=>Reads w size v n xs):=fun w s=>by
 refine h.same fun b hb=> ?_
 have e:w.heap[b.block]? =w0.heap[b.block]? :=by
  have s':St w0 w (old w0*di):=s.perm ((eG _).symm.trans (fx _ _));refine s'.old_at ?_;obtain⟨x,hx⟩:=Ji.1 hb;exact World.block_lt_of_cell? _ _ hx
 simp [World.cell?,e]
theorem St.own_set {w0 w:World} {e:TypeId} {g n cap:Nat} {xs:List Value} {F:SProp} (h:St w0 w (own e 1 (.slice (some ⟨g,0,none⟩) n cap) n xs*F)) (i:Nat) (u:Value):
  St w0 (w.setCell ⟨g,i,none⟩ u) (own e 1 (.slice (some ⟨g,0,none⟩) n cap) n (xs.set i u)*F):=by
 obtain⟨hl,⟨a1,_⟩ | ⟨g',cap',cur,a1,a2,a3,a4,a5,a6⟩⟩:=h.own_split
 ·cases a1
 ·cases a1;refine St.own_blk (a6.set i u) a2 a3 (by simpa using a4) ?_;rw[← a5,Jj,List.take_set]
theorem St.own_free {w0 w:World} {e:TypeId} {g n cap size:Nat} {xs:List Value} {F:SProp} (h:St w0 w (own e size (.slice (some ⟨g,0,none⟩) n cap) n xs*F)) (i:Nat):w.frozen? ⟨g,i,none⟩=false:=by
 obtain⟨hl,⟨a1,_⟩ | ⟨g',cap',cur,a1,a2,a3,a4,a5,a6⟩⟩:=h.own_split
 ·cases a1
 ·cases a1;exact a6.free i
theorem St.own_cell {w0 w:World} {e:TypeId} {g n cap:Nat} {xs:List Value} {F:SProp} (h:St w0 w (own e 1 (.slice (some ⟨g,0,none⟩) n cap) n xs*F)) {i:Nat} {u:Value} (hu:xs[i]? =some u):w.cell? ⟨g,i,none⟩=some u:=by
 obtain⟨hl,⟨a1,_⟩ | ⟨x,c,a1,a2,a3,a4⟩⟩:=h.reads
 ·cases a1
 ·cases a1;have:=a4 i u hu;rw[Addr.add_lit,bQ] at this;exact this
structure ElemT (P:Program) (t e:TypeId) (size bytes:Nat) (z:Value):Prop where
 sl:P.underlying t=some (.slice e)
 inf:∃ i,P.info? e=some i∧i.zero=some z∧i.size=size∧i.bytes=bytes
 zs:z.cells.size=size
 pos:0<size
theorem ti {P:Program} {w0 w:World} {F:SProp} {t e:TypeId} {size bytes:Nat} {z:Value} (T:ElemT P t e size bytes z) (ty:TypeId) {v:Value} {n:Nat} {xs:List Value}
  (h:St w0 w (own e size v n xs*F)) {x:Value} {m:Nat} {news:List Value} (hx:Reads w size x m news) (h1:∀ u∈news,u.oneCell'=true)
  (h63:n+m≤maxLen) (hbytes:(n+m)*bytes≤140737488355328):
  ∃ v' w',(Builtin.append_ #[t,t] ty #[v,x]).run P w= .ok v' w'∧St w0 w' (own e size v' (n+m) (xs++news)*F)∧(v'= .slice none 0 0↔v= .slice none 0 0∧m=0):=by
 obtain⟨ht,⟨i,hi,hz,rfl,rfl⟩,hzs,hsz⟩:=T;obtain⟨hxl,hx⟩:=hx
 rcases hx with ⟨rfl,rfl⟩ | ⟨ax,cap',rfl,hc1,hc2,hnews⟩
 ·have hn:news=[]:=bC (by simpa using hxl);subst hn;refine⟨v,w,run_append_owned_none w 0 t ty e i i.size ht hi v n xs h.own_row,by simpa using h,by simp⟩
 have hsmall:n+m≤9223372036854775807:=by simp only[maxLen] at h63;omega
 obtain⟨hl,a⟩:=h.own_split;have hlen:(xs++news).length=(n+m)*i.size:=by rw[ae,hl,hxl,kh]
 have grown:St w0 w F→∀ (old:Nat),old<n+m→
   St w0 (w.drew.alloc (.cells (xs.toArray++news.toArray++Builtin.zeroCells z.cells (grownCap w (n+m) old e-(n+m))) e))
    (own e i.size (.slice (some ⟨w.heap.size,0,none⟩) (n+m) (grownCap w (n+m) old e)) (n+m) (xs++news)*F):=by
  intro hF old ho;have hge:=grownCap_ge w (n+m) old e;have hcm:grownCap w (n+m) old e≤maxLen:=grownCap_le_maxLen w (n+m) old e h63;have ha:=hF.drew.alloc (.cells (xs.toArray++news.toArray++Builtin.zeroCells z.cells (grownCap w (n+m) old e-(n+m))) e);refine ha.own_blk hge hcm ?_ ?_
  ·simp only[yU,sW,size_zeroCells,hzs,hl,hxl,← kh]
   congr 1
   omega
  ·simp only[Array.toList_append,List.append_assoc];rw[← List.append_assoc,← hlen];exact pW
 rcases a with ⟨rfl,rfl,hF⟩ | ⟨g,cap,cur,rfl,hnc,hcm,hcs,htake,hB⟩
 ·have hx0:xs=[]:=bC (by simpa using hl);subst hx0
  by_cases hm:m=0
  ·subst hm;have hn:news=[]:=bC (by simpa using hxl);subst hn;refine⟨.slice none 0 0,w,?_,h,by simp⟩;simp [Builtin.append_,run_underlying ht,sizeOf,typeInfo,hi,Builtin.lenOf,Builtin.firstCells,loadCells,loadCellsFrom]
  ·have hr:=run_append_nil (P:=P) w t ty e i z ht hi hz ax m cap' news hxl hnews (by omega) (by omega) (by have hb:=hbytes;simp only[bQ] at hb;omega);have hgr:=grown hF 0 (by omega);simp only[bQ,ba,Jl] at hgr ⊢;exact⟨_,_,hr,hgr,by simp [hm]⟩
 ·by_cases hroom:n+m≤cap
  ·have hfit:n*i.size+news.length≤cur.size:=by rw[hxl,hcs,← kh];exact dW _ hroom
   have hr:=run_append_room (P:=P) w t ty e i ht hi g n cap cur hB.at_ ax m cap' news hxl hnews h1 hroom hfit;refine⟨_,_,hr,?_,by simp⟩;refine St.own_blk (cur:=(cur.toList.take (n*i.size)++news++cur.toList.drop (n*i.size+news.length)).toArray) (hB.upd rfl rfl rfl (by simp) ?_ ?_) hroom hcm ?_ ?_
   ·exact setRow_heap w g cur _ e _ hB.at_
   ·exact fun k _ hk=>setRow_other w g k _ (fun e=>hk (by simp [e]))
   ·simp only[sW,ae,aJ,bH,sV];omega
   ·rw[htake,← hlen];exact pW
  ·have holds:∀ j u,xs[j]? =some u→w.cell? ((⟨g,0,none⟩:Addr).add j)=some u:=by
    intro j u hu;rw[Addr.add_lit,bQ,hB.cells];subst htake;rw[jn] at hu
    split at hu
    ·simpa using hu
    ·cases hu
   have hr:=run_append_grow (P:=P) w t ty e i z ht hi hz ⟨g,0,none⟩ n cap xs hl holds ax m cap' news hxl hnews (by omega) (by omega) (growslice_fits (by omega) hbytes);exact⟨_,_,hr,grown hB.right cap (by omega),by simp⟩
theorem aC {P:Program} {w0 w:World} {F:SProp} {t e:TypeId} {size bytes:Nat} {z:Value} (T:ElemT P t e size bytes z)
  {ops:Array Oper} {rest:List Oper} {o:Oper} {a:Act} {Q:Exit→Act→World→Prop} (hgd:o.guard=none) (s y:Operand)
  (ho:o.op= .call { callee:= .builtin .append,args:=#[s,y],argTypes:=#[t,t] }) {v:Value} {n:Nat} {xs:List Value} (hs:a.eval s=v)
  (h:St w0 w (own e size v n xs*F)) {x:Value} {m:Nat} {news:List Value} (hy:a.eval y=x) (hx:Reads w size x m news) (h1:∀ u∈news,u.oneCell'=true)
  (h63:n+m≤maxLen) (hbytes:(n+m)*bytes≤140737488355328)
  (hK:∀ v' w',St w0 w' (own e size v' (n+m) (xs++news)*F)→(v'= .slice none 0 0↔v= .slice none 0 0∧m=0)→wpList P ops Q rest (a.put o.dst v') w'):wpList P ops Q (o::rest) a w:=by
 refine wpList_plain hgd fun K hk=> ?_
 obtain⟨v',w',hr,h2,h3⟩:=ti T o.type h hx h1 h63 hbytes;unfold Oper.wp execOp;simp only[ho,resolve,invoke,builtin,Sem.run_bind,Sem.run_pure,Result.andThen_ok,List.map_toArray,dR,ki,hs,hy,hr];exact hk _ _ (hK v' w' h2 h3)
theorem St.own_of_row {w0 w w':World} {F:SProp} {e:TypeId} {size:Nat} {v:Value} {n:Nat} {xs:List Value} (h:St w0 w F) (hg:w.grownBy w' none) (hr:w'.ownsRow w.heap.size e size v n xs):St w0 w' (own e size v n xs*F):=by
 have hb:∀ k,k<w.heap.size→w'.heap[k]? =w.heap[k]? :=fun k hk=>hg.block k hk (by simp)
 obtain⟨hl,⟨rfl,rfl⟩ | ⟨g,cap,cur,rfl,h1,h2,h3,h4,h5,h6⟩⟩:=hr
 ·have hx:xs=[]:=bC (by simpa using hl);subst hx;exact(h.ext hg.os hg.tape hg.output hg.size hb).own_nil e size
 ·exact(h.new hg.os hg.tape hg.output hg.size h1 h2 hb).own_blk h3 h4 h5 h6
theorem iF {P:Program} {w0 w:World} {F:SProp} {t e:TypeId} {size bytes:Nat} {z:Value} (T:ElemT P t e size bytes z)
  {ops:Array Oper} {rest:List Oper} {o:Oper} {a:Act} {Q:Exit→Act→World→Prop} (hgd:o.guard=none) (l c:Operand)
  (ho:o.op= .makeSlice t l c) {kl kc:IntKind} {L C:Int} (n:Nat) (hl:a.eval l= .int kl L) (hc:a.eval c= .int kc C) (hL:L=n) (hC:C=n)
  (h:St w0 w F) (h63:n≤maxLen) (hbytes:bytes*n≤281474976710656)
  (hK:∀ v' w',St w0 w' (own e size v' n (madeCells z.cells (n*size)).toList*F)→wpList P ops Q rest (a.put o.dst v') w'):wpList P ops Q (o::rest) a w:=by
 obtain⟨ht,⟨i,hi,hz,hs,hby⟩,hzs,hsz⟩:=T;exact wpList_make_full w hgd l c t ho w.heap.size e i z size ht hi hz hs kl kc L C n hl hc hL hC (by rw[hby];exact hbytes) h63 (Nat.le_refl _)
  fun w' hr hg=>hK _ _ (h.own_of_row hg hr)
theorem bR {w0 w:World} {e:TypeId} {size n cap:Nat} {a:Option Addr} {xs:List Value} {F:SProp} (h:St w0 w (own e size (.slice a n cap) n xs*F)) (hn:0<n):∃ g,a=some ⟨g,0,none⟩:=by
 obtain⟨hl,⟨a1,h0,_⟩ | ⟨g',cap',cur,a1,_⟩⟩:=h.own_split
 ·omega
 ·cases a1;exact⟨g',rfl⟩
def dj:List SProp→SProp
 | []=>di
 | A::l=>A*dj l
def StL (w0 w:World) (l:List SProp):Prop:=St w0 w (dj l)
theorem qq {l:List SProp} {i:Nat} {A:SProp} (h:l[i]? =some A):∃ F,dj l=A*F∧∀ B,dj (l.set i B)=B*F:=by
 induction l generalizing i with
 | nil=>simp at h
 | cons C l ih=>
  cases i with
  | zero=>
   simp at h;subst h;exact⟨dj l,rfl,fun B=>rfl⟩
  | succ i=>
   simp at h;obtain⟨F,h1,h2⟩:=ih h;exact⟨C*F,by rw[dj,h1,af],fun B=>by rw[lQ,dj,h2,af]⟩
theorem zC (l:List SProp) (A:SProp):dj (l++[A])=A*dj l:=by
 induction l with
 | nil=>simp [dj]
 | cons C l ih=>rw[dB,dj,ih,dj,af]
theorem StL.at_ {w0 w:World} {l:List SProp} {i:Nat} {A:SProp} (h:StL w0 w l) (hi:l[i]? =some A):∃ F,St w0 w (A*F):=by
 obtain⟨F,h1,_⟩:=qq hi;exact⟨F,St.perm h h1⟩
theorem StL.upd {w0 w w':World} {l:List SProp} {i:Nat} {A B:SProp} (h:StL w0 w l) (hi:l[i]? =some A) (f:∀ F,St w0 w (A*F)→St w0 w' (B*F)):StL w0 w' (l.set i B):=by
 obtain⟨F,h1,h2⟩:=qq hi;exact St.perm (f F (St.perm h h1)) (h2 B).symm
theorem StL.alloc {w0 w:World} {l:List SProp} (h:StL w0 w l) {b:Nat} (hb:b=w.heap.size) (o:Obj):StL w0 (w.alloc o) (l++[blk b o]):=by
 subst hb;exact St.perm (St.alloc h o) (zC _ _).symm
theorem StL.drew {w0 w:World} {l:List SProp} (h:StL w0 w l):StL w0 w.drew l:=St.drew h
theorem StL.cell {w0 w:World} {l:List SProp} {i b:Nat} {c:Array Value} {e:TypeId} {fr:Nat × Nat} (h:StL w0 w l) (hi:l[i]? =some (blk b (.cells c e fr))) (j:Nat) {v:Value} (hv:c[j]? =some v):w.cell? ⟨b,j,none⟩=some v:=by
 obtain⟨F,hF⟩:=h.at_ hi;exact hF.cell j hv
theorem StL.free {w0 w:World} {l:List SProp} {i b:Nat} {c:Array Value} {e:TypeId} (h:StL w0 w l) (hi:l[i]? =some (blk b (.cells c e (0,0)))) (j:Nat):w.frozen? ⟨b,j,none⟩=false:=by
 obtain⟨F,hF⟩:=h.at_ hi;exact hF.free j
theorem StL.set {w0 w:World} {l:List SProp} {i b:Nat} {c:Array Value} {e:TypeId} {fr:Nat × Nat} (h:StL w0 w l) (hi:l[i]? =some (blk b (.cells c e fr))) (j:Nat) (v:Value):
  StL w0 (w.setCell ⟨b,j,none⟩ v) (l.set i (blk b (.cells (c.setIfInBounds j v) e fr))):=
 h.upd hi fun F hF=>hF.set j v
theorem StL.one {w0 w:World} {l:List SProp} {i b:Nat} {u:Value} {e:TypeId} (h:StL w0 w l) (hi:l[i]? =some (blk b (.cells #[u] e))):Reads w 1 (.slice (some ⟨b,0,none⟩) 1 1) 1 [u]:=by
 refine⟨rfl,.inr ⟨_,1,rfl,Nat.le_refl _,by decide,fun j v hv=> ?_⟩⟩;cases j with
 | zero=>cases hv;exact h.cell hi 0 rfl
 | succ j=>simp at hv
theorem StL.reads {w0 w:World} {l:List SProp} {i:Nat} {e:TypeId} {size:Nat} {v:Value} {n:Nat} {xs:List Value} (h:StL w0 w l) (hi:l[i]? =some (own e size v n xs)):Reads w size v n xs:=by
 obtain⟨F,hF⟩:=h.at_ hi;exact hF.reads
theorem zD {P:Program} {w0 w:World} {F:SProp} {t e:TypeId} {size bytes:Nat} {z:Value} (T:ElemT P t e size bytes z) (ty:TypeId) {v:Value} {n:Nat} {xs:List Value}
  (h:St w0 w (own e size v n xs*F)) {x:Value} {m:Nat} {news:List Value} (hx:Reads w size x m news) (h1:∀ u∈news,u.oneCell'=true)
  (h63:n+m≤maxLen) (hbytes:(n+m)*bytes≤140737488355328) {v':Value} {w':World} (hr:(Builtin.append_ #[t,t] ty #[v,x]).run P w= .ok v' w'):Reads w' size v n xs:=by
 obtain⟨ht,⟨i,hi,hz,rfl,rfl⟩,hzs,hsz⟩:=T;have hv:=h.reads;obtain⟨hxl,hx⟩:=hx
 rcases hx with ⟨rfl,rfl⟩ | ⟨ax,cap',rfl,hc1,hc2,hnews⟩
 ·rw[run_append_owned_none w 0 t ty e i i.size ht hi v n xs h.own_row] at hr;cases hr;exact hv
 have hsmall:n+m≤9223372036854775807:=by simp only[maxLen] at h63;omega
 obtain⟨hl,a⟩:=h.own_split
 rcases a with ⟨rfl,rfl,hF⟩ | ⟨g,cap,cur,rfl,hnc,hcm,hcs,htake,hB⟩
 ·exact⟨hl,.inl ⟨rfl,rfl⟩⟩
 ·by_cases hroom:n+m≤cap
  ·have hfit:n*i.size+news.length≤cur.size:=by rw[hxl,hcs,← kh];exact dW _ hroom
   rw[run_append_room (P:=P) w t ty e i ht hi g n cap cur hB.at_ ax m cap' news hxl hnews h1 hroom hfit] at hr;cases hr;refine⟨hl,.inr ⟨_,cap,rfl,hnc,hcm,fun j u hu=> ?_⟩⟩;have hj:j<n*i.size:=by rw[← hl];exact(dJ.1 hu).1
   rw[Addr.add_lit,bQ,cell_of_row _ g j _ e (0,0) (setRow_heap w g cur _ e _ hB.at_)];rw[← htake] at hu;simp only[fq];rw[List.append_assoc,cR (by rw[aJ,sV];omega)];exact hu
  ·have holds:∀ j u,xs[j]? =some u→w.cell? ((⟨g,0,none⟩:Addr).add j)=some u:=by
    intro j u hu;rw[Addr.add_lit,bQ,hB.cells];subst htake;rw[jn] at hu
    split at hu
    ·simpa using hu
    ·cases hu
   rw[run_append_grow (P:=P) w t ty e i z ht hi hz ⟨g,0,none⟩ n cap xs hl holds ax m cap' news hxl hnews (by omega) (by omega) (growslice_fits (by omega) hbytes)] at hr;cases hr;refine⟨hl,.inr ⟨_,cap,rfl,hnc,hcm,fun j u hu=> ?_⟩⟩;rw[World.cell?_alloc_lt _ _ _ (by rw[Addr.add_lit];exact hB.lt),World.cell?_drew];exact holds j u hu
theorem iX {P:Program} {w0 w:World} {l:List SProp} {t e:TypeId} {size bytes:Nat} {z:Value} (T:ElemT P t e size bytes z)
  {ops:Array Oper} {o:Oper} {a:Act} {K:Act→World→Prop} {Q:Exit→Act→World→Prop} {E:Prop} (hgd:o.guard=none) (s y:Operand)
  (ho:o.op= .call { callee:= .builtin .append,args:=#[s,y],argTypes:=#[t,t] }) {v:Value} {n:Nat} {xs:List Value} (hs:a.eval s=v)
  (h:StL w0 w l) (i:Nat) (hi:l[i]? =some (own e size v n xs)) {x:Value} {m:Nat} {news:List Value} (hy:a.eval y=x) (hx:Reads w size x m news) (h1:∀ u∈news,u.oneCell'=true)
  (h63:n+m≤maxLen) (hbytes:(n+m)*bytes≤140737488355328)
  (hK:∀ v' w',StL w0 w' (l.set i (own e size v' (n+m) (xs++news)))→Reads w' size v n xs→K (a.put o.dst v') w'):if Region.wanted o (yielded ops a.tmps)=true then Oper.wp P o a w K Q else E:=by
 have hw:Region.wanted o (yielded ops a.tmps)=true:=by simp [Region.wanted,hgd]
 rw[if_pos hw];obtain⟨F,f1,f2⟩:=qq hi;obtain⟨v',w',hr,h2,_⟩:=ti T o.type (St.perm h f1) hx h1 h63 hbytes;unfold Oper.wp execOp;simp only[ho,resolve,invoke,builtin,Sem.run_bind,Sem.run_pure,Result.andThen_ok,List.map_toArray,dR,ki,hs,hy,hr];exact hK v' w' (St.perm h2 (f2 _).symm) (zD T o.type (St.perm h f1) hx h1 h63 hbytes hr)
def bv (c:UInt8):Value:= .int .u8 (c.toNat:Int)
def dD (bs:List UInt8) (low:Bool) (i:Nat):Nat:=(bs.getD (i/8) 0).toNat/2^(cond low (i%8) (7-i%8))%2
def bz (low:Bool) (f:Nat→Nat):Nat→Nat
 | 0=>0
 | n+1=>cond low (bz low f n+f n*2^n) (bz low f n*2+f n)
def eR (bs:List UInt8) (low:Bool) (p n:Nat):Nat:=bz low (fun i=>dD bs low (p+i)) n
theorem tj (bs:List UInt8) (low:Bool) (i:Nat):dD bs low i≤1:=by unfold dD;omega
theorem tm (bs:List UInt8) (low:Bool) (i:Nat) (h:8*bs.length≤i):dD bs low i=0:=by
 unfold dD;rw[List.getD_eq_getElem?_getD,bg (by omega)];simp
theorem eH (low:Bool) (f:Nat→Nat) (hf:∀ i,f i≤1):∀ n,bz low f n<2^n
 | 0=>by simp [bz]
 | n+1=>by
  have h:=eH low f hf n;have h1:=hf n;rw[df];cases low <;> simp only[bz,cond]
  ·omega
  ·have:f n*2^n≤1*2^n:=dW _ h1;omega
theorem zE (bs:List UInt8) (low:Bool) (p n:Nat):eR bs low p n<2^n:=eH _ _ (fun _=>tj _ _ _) n
theorem qr {n:Nat} (h:n≤32):2^n≤4294967296:=dX (n:=2) (by decide) h
theorem tn (x:Nat) (h:x<4294967296):bits .and .u32 (x:Int) 1=((x%2:Nat):Int):=by
 have:=u32_and_nat x 1 h (by decide);rw[nat_mask1] at this;exact this
theorem tp {x b k:Nat} (hx:x<2^k) (hk:k<32) (hb:b≤1):bits .or .u32 ((x:Int)*2%4294967296) (b:Int)=((x*2+b:Nat):Int):=by
 have h2:x*2<4294967296:=by
  have:=qr (n:=k+1) (by omega);rw[df] at this;omega
 have e:(x:Int)*2%4294967296=((x*2:Nat):Int):=by omega
 rw[e,u32_or_nat _ _ h2 (by omega)]
 congr 1
 exact nat_join 1 (x*2) b (by omega) (by omega)
theorem tr {x b k:Nat} (hx:x<2^k) (hk:k<32) (hb:b≤1):bits .or .u32 (x:Int) ((b:Int)*2^k%4294967296)=((x+b*2^k:Nat):Int):=by
 have h1:=qr (n:=k+1) (by omega);rw[df] at h1;have h3:b*2^k≤1*2^k:=dW _ hb;have e:(b:Int)*2^k%4294967296=((b*2^k:Nat):Int):=by
  have e1:((b*2^k:Nat):Int)=(b:Int)*2^k:=by simp
  rw[← e1];generalize b*2^k=y at*
  omega
 rw[e,u32_or_nat _ _ (by omega) (by omega)]
 congr 1
 rw[Nat.or_comm,nat_join k (b*2^k) x (by simp) hx,kj]
theorem zF (bs:List UInt8) (p k:Nat):eR bs false p (k+1)=eR bs false p k*2+dD bs false (p+k):=rfl
theorem zG (bs:List UInt8) (p k:Nat):eR bs true p (k+1)=eR bs true p k+dD bs true (p+k)*2^k:=rfl
theorem lj {P:Program} {w:World} {src dst e:TypeId} (hs:P.underlying src=some (.slice e)) (he:P.underlying e=some (.int .u8)) (hd:P.underlying dst=some .string)
  {v:Value} {n:Nat} {bs:List UInt8} (hr:Reads w 1 v n (bs.map bv)):(convert src dst v).run P w= .ok (.string ⟨bs.toArray⟩) w:=by
 obtain⟨hl,⟨rfl,rfl⟩ | ⟨x,cap,rfl,h1,h2,h3⟩⟩:=hr
 ·have hb:bs=[]:=bC (by simpa using hl);subst hb;exact run_convert_bytes_nil w src e hs he 0 0 dst hd
 ·have hn:bs.length=n:=by simpa using hl
  subst hn;exact run_convert_bytes_back w src dst e x cap bs hs he hd fun j hj=>h3 j _ (by simp [hj,bv])
theorem ks {P:Program} {src dst e:TypeId} (hs:P.underlying src=some (.slice e)) (he:P.underlying e=some (.int .u8)) (hd:P.underlying dst=some .string)
  {ops:Array Oper} {rest:List Oper} {o:Oper} {a:Act} {w:World} {Q:Exit→Act→World→Prop} (hg:o.guard=none) {x:Operand} (ho:o.op= .convert src dst x)
  {n:Nat} {bs:List UInt8} (hr:Reads w 1 (a.eval x) n (bs.map bv)) (hK:wpList P ops Q rest (a.put o.dst (.string ⟨bs.toArray⟩)) w):wpList P ops Q (o::rest) a w:=by
 refine wpList_plain hg fun K hk=> ?_
 unfold Oper.wp execOp;simp only[ho,Sem.run_bind,lj hs he hd hr,Result.andThen_ok,Sem.run_pure];exact hk _ _ hK
theorem kt (w:World) (e:TypeId) (c:UInt8) {z:Int} (hz:z=(c.toNat:Int)):
  Reads (w.alloc (.cells #[.int .u8 z] e)) 1 (.slice (some ⟨w.heap.size,0,none⟩) 1 1) 1 ([c].map bv):=by
 subst hz;exact((St.init w).lit #[.int .u8 (c.toNat:Int)] e 1 rfl (by decide)).reads
def dg (b:Nat):UInt8:=UInt8.ofNat (48+b)
def tx (l:List Nat):List UInt8:=l.map dg
def Bit (l:List Nat):Prop:=∀ b∈l,b≤1
def ap (v:Nat):Nat→List Nat
 | 0=>[]
 | n+1=>(v/2^n%2)::ap v n
def aX (l:List Nat):Nat:=l.foldl (fun v b=>v*2+b) 0
def gK (low:Bool) (c:UInt8):List Nat:=cond low (ap c.toNat 8).reverse (ap c.toNat 8)
def aF (low:Bool) (bs:List UInt8):List Nat:=bs.flatMap (gK low)
@[simp] theorem iY (l:List Nat):(tx l).length=l.length:=by simp [tx]
@[simp] theorem zH:tx []=[]:=rfl
@[simp] theorem ku (b:Nat) (l:List Nat):tx (b::l)=dg b::tx l:=rfl
theorem cZ (l m:List Nat):tx (l++m)=tx l++tx m:=by simp [tx]
theorem zI (l:List Nat):(tx l).reverse=tx l.reverse:=by simp [tx]
theorem qs (l:List Nat) (k:Nat):(tx l).drop k=tx (l.drop k):=by simp [tx]
theorem mh (l:List Nat) (k:Nat):(tx l).take k=tx (l.take k):=by simp [tx]
theorem jy {b:Nat} (h:b≤1):(dg b).toNat=48+b:=by simp [dg];omega
@[simp] theorem dw (v n:Nat):(ap v n).length=n:=by induction n <;> simp_all [ap]
theorem da (v n:Nat):Bit (ap v n):=by
 induction n with
 | zero=>intro b hb;simp [ap] at hb
 | succ n ih=>intro b hb;simp [ap] at hb;rcases hb with rfl | hb;omega;exact ih b hb
theorem Bit.reverse {l:List Nat} (h:Bit l):Bit l.reverse:=fun b hb=>h b (by simpa using hb)
theorem Bit.append {l m:List Nat} (h:Bit l) (k:Bit m):Bit (l++m):=fun b hb=>by rcases cA.1 hb with e | e;exact h b e;exact k b e
theorem Bit.take {l:List Nat} (h:Bit l) (k:Nat):Bit (l.take k):=fun b hb=>h b (jo hb)
theorem Bit.drop {l:List Nat} (h:Bit l) (k:Nat):Bit (l.drop k):=fun b hb=>h b (sX hb)
theorem iZ (n:Nat):Bit (List.replicate n 0):=fun b hb=>by simp at hb;omega
theorem Bit.getD {l:List Nat} (h:Bit l) (k:Nat):l.getD k 0≤1:=by
 rw[List.getD_eq_getElem?_getD];cases e:l[k]? with
 | none=>simp
 | some b=>exact h b (aG e)
theorem zJ (low:Bool) (c:UInt8):Bit (gK low c):=by cases low;exact da _ _;exact(da _ _).reverse
@[simp] theorem zK (low:Bool) (c:UInt8):(gK low c).length=8:=by cases low <;> simp [gK]
theorem kv (low:Bool) (bs:List UInt8):Bit (aF low bs):=fun b hb=>by
 obtain⟨c,_,h⟩:=iS.1 hb;exact zJ low c b h
@[simp] theorem eg (low:Bool) (bs:List UInt8):(aF low bs).length=8*bs.length:=by
 induction bs with
 | nil=>rfl
 | cons c l ih=>simp [aF] at ih ⊢;omega
theorem lk (low:Bool) (a b:List UInt8):aF low (a++b)=aF low a++aF low b:=by simp [aF]
theorem kx (v n i:Nat) (h:i<n):(ap v n)[i]? =some (v/2^(n-1-i)%2):=by
 induction n generalizing i with
 | zero=>omega
 | succ n ih=>
  cases i with
  | zero=>simp [ap]
  | succ i=>simp only[ap,cY];rw[ih i (by omega)];congr 4;omega
theorem zL (low:Bool) (c:UInt8) (i:Nat) (h:i<8):(gK low c)[i]? =some (c.toNat/2^(cond low i (7-i))%2):=by
 cases low
 ·simp only[gK,cond];exact kx _ 8 i h
 ·simp only[gK,cond];rw[yV (by simpa using h),dw,kx _ 8 _ (by omega)]
  congr 4;omega
theorem qt (low:Bool) (bs:List UInt8) (i:Nat) (h:i<8*bs.length):(aF low bs)[i]? =some (dD bs low i):=by
 induction bs generalizing i with
 | nil=>simp at h
 | cons c l ih=>
  have e:aF low (c::l)=gK low c++aF low l:=by simp [aF]
  rw[e]
  by_cases hi:i<8
  ·rw[cR (by simpa using hi),zL _ _ _ hi];have h1:i/8=0:=by omega
   have h2:i%8=i:=by omega
   simp [dD,h1,h2]
  ·rw[dh (by simp;omega),zK,ih _ (by simp at h;omega)];have h1:i/8=(i-8)/8+1:=by omega
   have h2:i%8=(i-8)%8:=by omega
   simp [dD,h1,h2]
theorem zM (low:Bool) (bs:List UInt8) (i:Nat):(aF low bs).getD i 0=dD bs low i:=by
 by_cases h:i<8*bs.length
 ·rw[List.getD_eq_getElem?_getD,qt _ _ _ h];rfl
 ·rw[tm _ _ _ (by omega),List.getD_eq_getElem?_getD,bg (by simp;omega)];rfl
theorem tu (l:List Nat) (a:Nat):l.foldl (fun v b=>v*2+b) a=a*2^l.length+aX l:=by
 induction l generalizing a with
 | nil=>simp [aX]
 | cons b l ih=>
  simp only[aX,lR,aK,df];rw[ih,ih (0*2+b)];simp only[kh,iz,lS,bQ];rw[jp 2 (2^l.length)];omega
theorem i9 (b:Nat) (l:List Nat):aX (b::l)=b*2^l.length+aX l:=by
 have:=tu l b;simp only[aX,lR,lS,bQ] at this ⊢;exact this
theorem qu (b:Nat) (l:List Nat):aX (l++[b])=aX l*2+b:=by simp [aX]
theorem lm {l:List Nat} (h:Bit l):aX l<2^l.length:=by
 induction l with
 | nil=>simp [aX]
 | cons b l ih=>
  rw[i9,aK,df];have h1:=h b (by simp);have h2:=ih (fun c hc=>h c (by simp [hc]));have:b*2^l.length≤1*2^l.length:=dW _ h1;omega
theorem mj (v n:Nat):aX (ap v n)=v%2^n:=by
 induction n with
 | zero=>simp [ap,aX,yW]
 | succ n ih=>
  rw[ap,i9,ih,dw,df,Nat.mod_mul];rw[jp];omega
theorem tv (f:Nat→Nat) (n:Nat):bz false f n=aX ((List.range n).map f):=by
 induction n with
 | zero=>rfl
 | succ n ih=>rw[gX,List.map_append,dR,ki,qu,← ih];rfl
theorem tw (f:Nat→Nat) (n:Nat):bz true f n=aX ((List.range n).map f).reverse:=by
 induction n with
 | zero=>rfl
 | succ n ih=>
  rw[gX,List.map_append,dR,ki,sY,km,List.reverse_nil,ba,dB,ba,i9,← ih];simp [bz];omega
theorem qv (low:Bool) (f:Nat→Nat) (n:Nat):bz low f n=aX (cond low ((List.range n).map f).reverse ((List.range n).map f)):=by
 cases low;exact tv f n;exact tw f n
theorem tz (l:List Nat) (p n m:Nat) (hm:n≤m):((l.drop p)++List.replicate m 0).take n=(List.range n).map fun i=>l.getD (p+i) 0:=by
 apply iA;intro i
 by_cases hi:i<n
 ·rw[Jp hi,au,fs hi];simp only[cB,List.getD_eq_getElem?_getD]
  by_cases h:p+i<l.length
  ·rw[cR (by simp;omega)];simp [h]
  ·rw[dh (by simp;omega),bg (l:=l) (by omega),eb,if_pos (by simp;omega)];rfl
 ·rw[bg (by simp;omega),bg (by simp;omega)]
theorem gu {l:List UInt8} {k:Nat} {c:UInt8} (h:l[k]? =some c) (hk:k<(ByteArray.mk l.toArray).size):(ByteArray.mk l.toArray)[k]'hk=c:=by
 have hk':k<l.length:=hk;rw[ai hk'] at h;simp only[yX] at h;rw[← h];rfl
theorem gL {k:IntKind} {x y:Int} (h:x=y):Value.int k x=Value.int k y:=by rw[h]
def gw (l:List Nat) (low:Bool) (p:Nat) (n:Int):Nat × Nat × Nat:=
 if n<0∨32<n then(0,p,1) else if l.length<p+n.toNat then(0,p,2) else(bz low (fun i=>l.getD (p+i) 0) n.toNat,p+n.toNat,0)
def ja (l:List Nat) (low:Bool) (p:Nat) (n:Int):Nat × Nat:=
 if n<0∨32<n then(0,1) else(bz low (fun i=>l.getD (p+i) 0) n.toNat,0)
end Go.Mz
