/-
  Parts of a proof.
-/
import Derived.Test.YtboflbdniogcdaaGreatDoorK00
import Derived.Deep.RegionWith
import Derived.Test.YtboflbdniogcdaaGreatDoorK23
import Derived.Test.YtboflbdniogcdaaGreatDoorK05
import Derived.Test.YtboflbdniogcdaaGreatDoorChecked
import Derived.Test.YtboflbdniogcdaaGreatDoorK01
import Derived.WalkLawsBesides
import Derived.RegionTactic
import Derived.BigRegion
import Derived.Deep.QuietTactic
import Derived.BigQuiet
import Derived.Test.YtboflbdniogcdaaGreatDoorK06
set_option linter.unusedVariables false
set_option linter.unusedSimpArgs false
set_option maxRecDepth 100000
set_option maxHeartbeats 100000000
namespace Go.Proofs.YtboflbdniogcdaaGreatDoor
open Go.RowKit Go.Mz
theorem s8 {i:Nat} (h:i<10):1≤(aP.getD i []).length:=by
 obtain⟨v,hv,hn⟩:=sE h;rw[kr hv];exact ux.2 hn
theorem EW {P T t r:List Nat} (hP:Bit P) (hT:T.length=P.length) (hW:P.length≤32768):∀ (f g p:Nat) (at':Int) (b:Bool),nL P at' b→(P.length:Int)-at'≤f→(cL (af P) (af T) P.length f at' b).length<g→p≤t.length→
  t.drop p=cL (af P) (af T) P.length f at' b++r→jv t (af T) P.length g p (P.take (max at' 0).toNat) b at'=(p+(cL (af P) (af T) P.length f at' b).length,.inl P):=by
 intro f
 induction f with
 | zero=>
  intro g p at' b hat hf hg hp ht;obtain⟨g,rfl⟩:∃ k,g=k+1:=⟨g-1,by omega⟩;rw[jv,if_neg (by omega),cL];rw[cW (by omega)];rfl
 | succ f ih=>
  intro g p at' b hat hf hg hp ht;obtain⟨g,rfl⟩:∃ k,g=k+1:=⟨g-1,by omega⟩;rw[jv];rw[cL] at ht hg ⊢
  by_cases hlt:at'<(P.length:Int)
  ·rw[if_pos hlt] at ht hg ⊢;rw[if_pos hlt];simp only at ht hg ⊢;obtain⟨n1,n2,n3,n4,n5,n6⟩:=El hP hat hlt;obtain⟨c1,c2,c3,c4⟩:=lk (at':=at') (toB:= !b) (width:=P.length) (af T) true (iz T) (fun x hx=>by rw[← hT];exact gK T x hx) hlt;have nb:=lk (at':=at') (toB:= !b) (width:=P.length) (af P) true (iz P) (gK P) hlt;obtain⟨_,_,a3,a4⟩:=nb;rw[mj];generalize br true at' (!b) P.length (af P)=a at*
   generalize br true at' (!b) P.length (af T)=c at*
   have hat0: -1≤at':=by rcases hat with ⟨rfl,_⟩ | ⟨k,rfl,_⟩ <;> omega
   obtain⟨q,hq⟩:∃ q:Nat,q=(max at' 0).toNat:=⟨_,rfl⟩;rw[← hq] at n3 ht hg ⊢;have hqW:q≤P.length:=by omega
   have hql:(P.take q).length=q:=by rw[aL];omega
   by_cases h1:c.2<a.1
   ·rw[if_pos h1] at ht hg ⊢;have hmp:=s8 (i:=8) (by omega);rw[ae] at hg;rw[List.append_assoc] at ht;rw[sP (by omega) ht];simp only;rw[if_pos (by decide),hql];simp only;have e1:P.take q++aT (c.2-q) b=P.take c.2:=pV (by omega) (by omega) (fun j h1 h2=>n3 j h1 (by omega));rw[e1];have hat2:nL P (c.2:Int) b:= .inr ⟨c.2,rfl,by omega,fun h=>n3 c.2 (by omega) h1⟩;have hd:=jx ht;have hp2:p+(aP.getD 8 []).length≤t.length:=by
     have:=congrArg List.length ht;rw[a8,ae] at this;omega
    have:=ih g (p+(aP.getD 8 []).length) (c.2:Int) b hat2 (by omega) (by omega) hp2 hd;rw[show(max (c.2:Int) 0).toNat=c.2 by omega] at this;rw[this,ae,da]
   ·rw[if_neg h1] at ht hg ⊢
    by_cases h2:a.1≤c.1+3∧c.1≤a.1+3
    ·rw[if_pos h2] at ht hg ⊢;have hmp:=s8 (i:=a.1+3-c.1) (by omega);rw[ae] at hg;rw[List.append_assoc] at ht;rw[sP (by omega) ht];simp only;rw[if_neg (by omega),if_neg (by omega),if_neg (by omega),hql];simp only;have ex:(c.1:Int)+(((a.1+3-c.1:Nat):Int)-3)=(a.1:Int):=by omega
     rw[ex,eT];have e1:P.take q++aT (a.1-q) b=P.take a.1:=pV (by omega) (by omega) n3;rw[e1];have hat2:nL P (a.1:Int) (!b):= .inr ⟨a.1,rfl,by omega,n5⟩;have hd:=jx ht;have hp2:p+(aP.getD (a.1+3-c.1) []).length≤t.length:=by
      have:=congrArg List.length ht;rw[a8,ae] at this;omega
     have:=ih g (p+(aP.getD (a.1+3-c.1) []).length) (a.1:Int) (!b) hat2 (by omega) (by omega) hp2 hd;rw[show(max (a.1:Int) 0).toNat=a.1 by omega] at this;rw[this,ae,da]
    ·rw[if_neg h2] at ht hg ⊢;have hmp:=s8 (i:=7) (by omega);simp only[ae] at hg;simp only[List.append_assoc] at ht;rw[sP (by omega) ht];simp only;rw[if_neg (by decide),if_pos (by decide)];have hd:=jx ht;have hl:=congrArg List.length ht;rw[a8,ae,ae,ae] at hl;have hR:=sO b (t:=t) (((P.length-q:Nat)):Int) (m:=a.1-q) (p:=p+(aP.getD 7 []).length) (by omega) (by omega) hd (by omega);have hd2:=jx hd;have hR2:=sO (!b) (t:=t) (((P.length-(q+(a.1-q)):Nat)):Int) (m:=a.2-a.1) (p:=p+(aP.getD 7 []).length+(cK b (a.1-q)).length) (by omega) (by omega) hd2 (by omega);have hd3:=jx hd2;have e1:P.take q++aT (a.1-q) b=P.take a.1:=pV (by omega) (by omega) n3;have e2:P.take a.1++aT (a.2-a.1) (!b)=P.take a.2:=pV (by omega) (by omega) n4;rw[two,hql,hR];simp only;rw[hR2];simp only;rw[e1,e2];have hal:(P.take a.2).length=a.2:=by rw[aL];omega
     rw[hal];have hat2:nL P (a.2:Int) b:= .inr ⟨a.2,rfl,by omega,n6⟩;have:=ih g (p+(aP.getD 7 []).length+(cK b (a.1-q)).length+(cK (!b) (a.2-a.1)).length) (a.2:Int) b hat2 (by omega) (by omega) (by omega) hd3;rw[show(max (a.2:Int) 0).toNat=a.2 by omega] at this;rw[this];simp only[ae,da]
  ·rw[if_neg hlt] at ht ⊢;rw[if_neg hlt,cW (by omega)];rfl
def gs (width:Nat):List Nat→List (List Nat)→List Nat
 | _,[]=>[]
 | top,l::r=>cL l top width (width+1) (-1) false++gs width l r
theorem xL {P T t r:List Nat} (hP:Bit P) (hT:T.length=P.length) (hW:P.length≤32768) {p:Nat} (hp:p≤t.length) (ht:t.drop p=cL (af P) (af T) P.length (P.length+1) (-1) false++r):
  gN t (af T) P.length p=(p+(cL (af P) (af T) P.length (P.length+1) (-1) false).length,.inl P):=by
 have hl:=congrArg List.length ht;rw[a8,ae] at hl;have:=EW hP hT hW (P.length+1) (t.length+1-p) p (-1) false (.inl ⟨rfl,rfl⟩) (by omega) (by omega) hp ht;have e0:P.take (max (-1:Int) 0).toNat=[]:=rfl;rw[e0] at this;exact this
theorem EX (b:Bool) (n:Nat) (hn:n≤32768):1≤(cK b n).length:=by
 have h1:=(sN b (dt n) (fun i hi=>sD i hi)).1;have h3:1≤(dt n).length:=by
  rw[dt];simp only[ae,df,eI];omega
 rw[cK];omega
theorem EY:∀ (L:List Nat) (b:Bool),(∀ x∈L,x≤32768)→L.length≤(bE b L).length:=by
 intro L
 induction L with
 | nil=>intro b _;simp
 | cons x r ih=>
  intro b h;have h1:=EX b x (h x (by simp));have h2:=ih (!b) (fun y hy=>h y (by simp [hy]));rw[bE,ae,aO];omega
theorem xM {P t r:List Nat} (hP:Bit P) (hW:P.length≤32768) {p:Nat} (hp:p≤t.length) (ht:t.drop p=bE false (bg 0 (af P) P.length)++r):
  fV t P.length p=(p+(bE false (bg 0 (af P) P.length)).length,.inl P):=by
 have hlo:=Eo (af P) P.length 0 (iz P) (fun x hx=>⟨Nat.zero_le _,gK P x hx⟩) (Nat.zero_le _);have hge:=EY (bg 0 (af P) P.length) false (fun x hx=>by have:=sQ (af P) P.length 0 (gK P) x hx;omega);have hl:=congrArg List.length ht;rw[a8,ae] at hl;have:=Ep hW (bg 0 (af P) P.length) (t.length+1-p) p [] false r hlo.2.2 hlo.2.1 (by simpa using hlo.1) (by omega) hp ht;rw[fV,this];have e:=En P false 0 0 hP (Nat.le_refl _);simp only[rc,bA] at e;have e2:bi (cl false) 0 P=af P:=rfl;rw[e2] at e;rw[e];simp [aT]
theorem pZ {l:List Nat} (hb:Bit l):ag false (az false l)=cJ l:=by
 have hle:(ag false (az false l)).length=(cJ l).length:=by
  rw[bM,dq,cJ,ae,df];omega
 refine lP hle (fun i h1 h2=> ?_);have:=rP false hb i;rw[List.getD_eq_getElem?_getD,au h1] at this;simp only[jg] at this;rw[this];have e:(cJ l).getD i 0=(cJ l)[i]:=by rw[List.getD_eq_getElem?_getD,au h2];rfl
 rw[← e,cJ,List.getD_eq_getElem?_getD,List.getD_eq_getElem?_getD,List.getElem?_append]
 split
 ·rfl
 ·rename_i hi;rw[bh (by omega)];cases hx:(List.replicate ((8-l.length%8)%8) 0)[i-l.length]? with
  | none=>rfl
  | some v=>
   have:=aI hx;rw[uB this];rfl
theorem s9 (l:List Nat):(cJ l).length=(l.length+7)/8*8:=by
 rw[cJ,ae,df];omega
theorem EZ (width:Nat):∀ (L:List (List Nat)) (acc:List Nat),∃ X,encF width L acc=acc++X:=by
 intro L
 induction L with
 | nil=>intro acc;exact⟨[],by simp [encF]⟩
 | cons l r ih=>
  intro acc;obtain⟨X,hX⟩:=ih (cJ (acc++bE false (bg 0 l width)));rw[encF,hX];exact⟨bE false (bg 0 l width)++(List.replicate ((8-(acc++bE false (bg 0 l width)).length%8)%8) 0++X),by rw[cJ];simp only[List.append_assoc]⟩
theorem E0 (width:Nat):∀ (L:List (List Nat)) (acc:List Nat),acc.length%8=0→(encF width L acc).length%8=0:=by
 intro L
 induction L with
 | nil=>intro acc h;exact h
 | cons l r ih=>
  intro acc h;rw[encF];exact ih _ (by rw[s9];omega)
theorem xN (n:Nat):af (aT n false)=[]:=sH 0 n 0
theorem E4:∀ (L:List Nat) (b:Bool),Bit (bE b L):=by
 intro L
 induction L with
 | nil=>intro b;exact iY
 | cons n r ih=>intro b;rw[bE];exact(pQ b n).append (ih _)
def gO:List Nat:=eK++eK
def gY (t:List Nat) (p:Nat):Bool:=decide ((t.drop p).take 24=gO)
theorem tc:gO.length=24:=by decide +kernel
theorem xO:Bit gO:=show ∀ b∈gO,b≤1 by decide +kernel
theorem E5:Bit eK:=show ∀ b∈eK,b≤1 by decide +kernel
theorem E6:∀ (a b:List Nat),Bit a→Bit b→a.length=b.length→bB a=bB b→a=b:=by
 intro a
 induction a with
 | nil=>intro b _ _ hl _;cases b with
  | nil=>rfl
  | cons y b=>simp at hl
 | cons x a ih=>
  intro b ha hb hl hn;cases b with
  | nil=>simp at hl
  | cons y b=>
   simp only[aO,Nat.add_right_cancel_iff] at hl;rw[iQ,iQ,hl] at hn;have h1:=kS (l:=a) (fun c hc=>ha c (by simp [hc]));have h2:=kS (l:=b) (fun c hc=>hb c (by simp [hc]));rw[hl] at h1;have hx:=ha x (by simp);have hy:=hb y (by simp);have hxy:x=y:=by
    generalize 2^b.length=q at*
    rcases K7.1 hx with rfl | rfl <;> rcases K7.1 hy with rfl | rfl
    ·rfl
    ·omega
    ·omega
    ·rfl
   subst hxy;rw[ih b (fun c hc=>ha c (by simp [hc])) (fun c hc=>hb c (by simp [hc])) hl (by omega)]
theorem E7 {t:List Nat} {p:Nat} (h:t.length<p+24):gY t p=false:=by
 rw[gY,decide_eq_false_iff_not];intro e;have:=congrArg List.length e;rw[tc,aL,a8] at this;omega
theorem E9 {bs:List UInt8} {p:Nat} (h:p+24≤8*bs.length):(((bL bs false p 24:Nat):Int)==4097)=gY (ag false bs) p:=by
 have hl:(ag false bs).length=8*bs.length:=bM _ _;have e:bL bs false p 24=bB (((ag false bs).drop p).take 24):=by
  rw[uR,rv,← A8 _ p 24 24 (Nat.le_refl _),K8 (by rw[a8];omega)]
 rw[e,gY];have hw:bB gO=4097:=by decide +kernel
 by_cases hc:((ag false bs).drop p).take 24=gO
 ·rw[hc,hw];simp
 ·rw[decide_eq_false hc];have:bB (((ag false bs).drop p).take 24)≠4097:=fun h4=>hc (E6 _ _ (((oT false bs).drop p).take 24) xO (by rw[tc,aL,a8];omega) (by rw[h4,hw]))
  simp;omega
def fH (t:List Nat) (width:Nat):Nat→Nat→List Nat→List (List Nat)→(List (List Nat) ⊕ Nat)
 | 0,_,_,acc=> .inl acc
 | n+1,p,top,acc=>
  if gY t p then .inr 2 else
  match gN t top width p with
  | (_,.inr e)=> .inr e
  | (k,.inl px)=>fH t width n k (af px) (acc++[px])
theorem xP {Q:List Nat} {width:Nat} (h:Q.length=width):(af Q).Pairwise (· < ·)∧∀ x∈af Q,x<width:=⟨iz Q,fun x hx=>by rw[← h];exact gK Q x hx⟩
theorem mod_one {i:Nat} (h:i<9):(aP.getD i []).length≤7∧1∈aP.getD i []:=by
 have:∀ i∈List.range 9,(aP.getD i []).length≤7∧1∈aP.getD i []:=by decide +kernel
 exact this i (iP.2 h)
theorem Fa {t w r:List Nat} {p:Nat} (hw:w.length≤7) (h1:1∈w) (h:t.drop p=w++r):gY t p=false:=by
 rw[gY,decide_eq_false_iff_not];intro e;have e7:=congrArg (List.take w.length) e;rw[List.take_take,j9 (by omega),h,lH] at e7;have hz:∀ k,k≤7→∀ x∈gO.take k,x=0:=by decide +kernel
 have:=hz w.length hw 1 (by rw[← e7];exact h1);cases this
theorem Fb {row top:List Nat} {width:Nat} (htp:top.Pairwise (· < ·)∧∀ x∈top,x<width) (hrp:row.Pairwise (· < ·)∧∀ x∈row,x<width) (h1:1≤width):∃ i r,i<9∧cL row top width (width+1) (-1) false=aP.getD i []++r:=by
 rw[cL,if_pos (by omega)];simp only;generalize br true (-1) (!false) width row=a;generalize br true (-1) (!false) width top=c
 by_cases h1:c.2<a.1
 ·rw[if_pos h1];exact⟨8,_,by decide,rfl⟩
 ·rw[if_neg h1]
  by_cases h2:a.1≤c.1+3∧c.1≤a.1+3
  ·rw[if_pos h2];exact⟨a.1+3-c.1,_,by omega,rfl⟩
  ·rw[if_neg h2];exact⟨7,_,by decide,rfl⟩
theorem Fc {t:List Nat} {width:Nat} (h1:1≤width) (hw:width≤32768):∀ (Ps:List (List Nat)) (Tp:List Nat) (p:Nat) (X:List Nat) (acc:List (List Nat)) (k:Nat),(∀ P∈Ps,P.length=width∧Bit P)→Tp.length=width→p≤t.length→
  t.drop p=gs width (af Tp) (Ps.map af)++X→(k≤Ps.length→fH t width k p (af Tp) acc= .inl (acc++Ps.take k))∧(X.take 24=gO→fH t width (Ps.length+1) p (af Tp) acc= .inr 2):=by
 intro Ps
 induction Ps with
 | nil=>
  intro Tp p X acc k _ _ hp ht;refine⟨fun hk=> ?_,fun hX=> ?_⟩
  ·obtain rfl:k=0:=by simpa using hk
   simp [fH]
  ·simp only[gC,gs,bH] at ht;rw[bI,fH];have:gY t p=true:=by rw[gY,ht,hX];simp
   rw[if_pos this]
 | cons P r ih=>
  intro Tp p X acc k hP hT hp ht;obtain⟨hPl,hPb⟩:=hP P (by simp);rw[cO,gs,List.append_assoc] at ht;obtain⟨i,s,hi,hs⟩:=Fb (xP hT) (xP hPl) h1;have hne:gY t p=false:=by
   rw[hs,List.append_assoc] at ht;exact Fa (mod_one hi).1 (mod_one hi).2 ht
  have hRT:=xL hPb (by rw[hT,hPl]) (by omega) hp (by rw[hPl];exact ht);rw[hPl] at hRT;have hd:=jx ht;have hl:=congrArg List.length ht;rw[a8,ae] at hl;have key:∀ n,fH t width (n+1) p (af Tp) acc=fH t width n (p+(cL (af P) (af Tp) width (width+1) (-1) false).length) (af P) (acc++[P]):=fun n=>by
   rw[fH,hne,if_neg (by decide),hRT]
  have IH:=fun k=>ih P (p+(cL (af P) (af Tp) width (width+1) (-1) false).length) X (acc++[P]) k (fun Q hQ=>hP Q (by simp [hQ])) hPl (by omega) hd
  refine⟨fun hk=> ?_,fun hX=> ?_⟩
  ·cases k with
   | zero=>simp [fH]
   | succ k=>
    rw[key,(IH k).1 (by simpa using hk),ij,List.append_assoc];rfl
  ·rw[aO,key];exact(IH 0).2 hX
def gt (width:Nat) (L:List (List Nat)):List Nat:=gs width [] L++gO
theorem xQ {row top:List Nat} {width:Nat}:∀ (f:Nat) (at':Int) (b:Bool),Bit (cL row top width f at' b):=by
 have hm:∀ i,Bit (aP.getD i []):=fun i=>by
  rw[List.getD_eq_getElem?_getD];cases hx:aP[i]? with
  | none=>exact iY
  | some v=>exact so v (aI hx)
 intro f
 induction f with
 | zero=>intro at' b;exact iY
 | succ f ih=>
  intro at' b;rw[cL]
  split
  ·simp only
   split
   ·exact(hm 8).append (ih _ _)
   ·split
    ·exact(hm _).append (ih _ _)
    ·exact(hm 7).append ((pQ _ _).append ((pQ _ _).append (ih _ _)))
  ·exact iY
theorem Fd (width:Nat):∀ (L:List (List Nat)) (top:List Nat),Bit (gs width top L):=by
 intro L
 induction L with
 | nil=>intro top;exact iY
 | cons l r ih=>intro top;rw[gs];exact(xQ _ _ _).append (ih _)
theorem xR {width:Nat} (hw:width≤400):∀ (L:List (List Nat)) (top:List Nat),(∀ l∈L,gX width l)→(top.Pairwise (· < ·)∧∀ x∈top,x<width)→(gs width top L).length≤300000*L.length:=by
 intro L
 induction L with
 | nil=>intro top _ _;simp [gs]
 | cons l r ih=>
  intro top h ht;have hl:=h l (by simp);have h1:=sV hl.1 hl.2.1 ht.1 ht.2 (by omega) (width+1) (-1) false;have h2:=ih l (fun x hx=>h x (by simp [hx])) ⟨hl.1,hl.2.1⟩;rw[gs,ae,aO];omega
theorem Fe {width:Nat} (h1:1≤width) (hw:width≤32768) {Ps:List (List Nat)} (hP:∀ P∈Ps,P.length=width∧Bit P) (more:List UInt8) (k:Nat):
  (k≤Ps.length→fH (ag false (az false (gt width (Ps.map af))++more)) width k 0 [] []= .inl (Ps.take k))∧fH (ag false (az false (gt width (Ps.map af))++more)) width (Ps.length+1) 0 [] []= .inr 2:=by
 have hb:Bit (gt width (Ps.map af)):=(Fd _ _ _).append xO;have e0:af (aT width false)=[]:=xN width;have ht:(ag false (az false (gt width (Ps.map af))++more)).drop 0=gs width (af (aT width false)) (Ps.map af)++(gO++(List.replicate ((8-(gt width (Ps.map af)).length%8)%8) 0++ag false more)):=by
  rw[mV,ke,pZ hb,cJ,e0,gt];simp only[List.append_assoc]
 have:=Fc h1 hw Ps (aT width false) 0 _ [] k hP (by simp [aT]) (Nat.zero_le _) ht;rw[e0,bH] at this;exact⟨this.1,this.2 (by rw[mW tc])⟩
theorem Ff {w0 w:World} {F:SProp} {Rb:Nat} {bs:List UInt8} {p:Nat} (h:St w0 w (aq Rb bs p false*F)):
  Calls Tryz.prog 125 #[.pointer (some ⟨Rb,0,none⟩)] w fun e w'=>e= .returned (.bool (gY (ag false bs) p))∧St w0 w' (aq Rb bs p false*F):=by
 obtain⟨hb1,hb2,_⟩:=kU h;have hl:(ag false bs).length=8*bs.length:=bM _ _;have HP:=ac (BI h (j:=24) 24 rfl (by decide));have hpe:=E9 (bs:=bs) (p:=p);have hsh:=E7 (t:=ag false bs) (p:=p);rw[hl] at hsh;generalize gY (ag false bs) p=r at*
 generalize bL bs false p 24=v at*
 have HL:=ac (fun w (h:St w0 w (aq Rb bs p false*F))=>BH h);clear h hl;go_enter Tryz.func125,Tryz.ntmps125;go_wp2_with fail;refine HP.out.mono ?_;rintro e w2 ⟨rfl,h2⟩;have HL2:=ac (HL.out _ h2);clear h2 HP HL
 by_cases hc:p+24≤8*bs.length
 ·have h24:(24:Int)≤8*(bs.length:Int)-p:=by omega
  have hv:=hpe hc;have HV:=ac hv;clear hpe hsh;go_wp2_with fail;refine HL2.out.mono ?_;rintro e w3 ⟨rfl,h3⟩;have H3:=ac h3;clear h3 HL2;have h24d:decide ((24:Int)≤8*(bs.length:Int)-p)=true:=decide_eq_true h24;go_wp2_with fail;go_ret;refine⟨?_,H3.out⟩;rw[← HV.out];rfl
 ·have h24:¬ (24:Int)≤8*(bs.length:Int)-p:=by omega
  have hr:=hsh (by omega);subst hr;clear hpe hsh;go_wp2_with fail;refine HL2.out.mono ?_;rintro e w3 ⟨rfl,h3⟩;have H3:=ac h3;clear h3 HL2;have h24d:decide ((24:Int)≤8*(bs.length:Int)-p)=false:=decide_eq_false (by omega);go_wp2_with fail;go_ret;exact⟨rfl,H3.out⟩
theorem p5:eE [48,48,48,48,48,48,48,48,48,48,48,49]=eK:=by decide +kernel
theorem Fg {w0 w:World} {F:SProp} (h:St w0 w F) (htab:dA w0 F) {R:List (Value × List Nat)} {v:Value} (hv:Stb w0 F (fun w=>Reads w 1 v R.length (R.map Prod.fst))) (hr:Stb w0 F (fun w=>∀ x∈R,Reads w 1 x.1 x.2.length (x.2.map nv))) {width:Nat} (h1:1≤width) (hw:width≤400) (hR:∀ x∈R,gX width x.2) (hN:R.length≤300):
  Calls Tryz.prog 46 #[v,.int .i64 (width:Int)] w fun e w'=>∃ v',e= .returned (.tuple #[v',.int .i64 0])∧St w0 w' (own 5 1 v' (az false (gt width (R.map Prod.snd))).length ((az false (gt width (R.map Prod.snd))).map bv)*F):=by
 obtain⟨a0,c0,rfl⟩:=(hv w h).sub;have HV:=ac hv;have HRR:=ac hr;have HRO:=ac hR;have HT:=ac htab;have hw1:¬ (width:Int)<1:=by omega
 have hw2:¬ (32768:Int)<width:=by omega
 obtain⟨res,hres⟩:∃ res,gs width [] (R.map Prod.snd)=res:=⟨_,rfl⟩;rw[gt,hres];have HRES:=ac hres;clear hres htab hv hr hR;have H:=ac h;clear h;go_enter Tryz.func46,Tryz.ntmps46;go_wp2_with fail;refine(ld (low:=false) H.out).mono ?_;rintro e w3 ⟨Wb,rfl,h3⟩;have H3:=ac h3;clear h3 H;go_wp2_with fail;refine(li H3.out (fun w h=>HT.out w h.right)).mono ?_;rintro e w4 ⟨C,rfl,h4⟩;have h5:=(h4.lit #[] 3 0 rfl (by decide)).perm (show _=aA C*(aB Wb [] false*(own 3 1 (.slice (some ⟨w4.heap.size,0,none⟩) 0 0) 0 []*F)) by simp only;ac_rfl);have H5:=ac h5;clear h4 h5 H3;go_wp2_with fail;generalize w4.heap.size=gA at*
 go_loopw [8,23] (fun va vi wr=>∃ (k:Nat) (acc top:List Nat) (aa:Option Addr) (ca:Nat),k≤R.length∧vi= .int .i64 k∧va= .slice aa top.length ca∧acc.length≤300000*k∧acc++gs width top ((R.map Prod.snd).drop k)=res∧(top.Pairwise (· < ·)∧(∀ x∈top,x<width)∧top.length≤400)∧
   Stb w0 (own 3 1 (.slice (some ⟨gA,0,none⟩) 0 0) 0 []*F) (fun w=>Reads w 1 (.slice aa top.length ca) top.length (top.map nv))∧St w0 wr (aA C*(aB Wb acc false*(own 3 1 (.slice (some ⟨gA,0,none⟩) 0 0) 0 []*F)))) (fun _ vi _=>R.length-(intOf vi).toNat)
 case atStart=>exact⟨0,[],[],some ⟨gA,0,none⟩,0,by omega,rfl,rfl,by simp,HRES.out,⟨List.Pairwise.nil,(fun x hx=>by cases hx),by simp⟩,Stb.of_own,H5.out⟩
 case round=>
  clear H5 HRES;obtain⟨k,acc,top,aa,ca,hk,rfl,rfl,hal,hall,htop,hstb,hst⟩:=hrel
  by_cases hkn:k<R.length
  ·have hkl:(k:Int)<R.length:=by omega
   obtain⟨g,o,rfl,e1⟩:=(HV.out wr hst.right.right.right).at_ hkn;have hx:=au hkn;rw[aC,hx] at e1;simp only[b7] at e1;have hmem:=cT hkn;have hd:(R.map Prod.snd).drop k=R[k].2::(R.map Prod.snd).drop (k+1):=by
    rw[dX (by simpa using hkn),kd]
   rw[hd,gs,← List.append_assoc] at hall;have hro:=HRO.out _ hmem;have hrd:Stb w0 F (fun w=>Reads w 1 R[k].1 R[k].2.length (R[k].2.map nv)):=fun w h=>HRR.out w h _ hmem
   clear hx hd hmem;obtain⟨⟨xv,xl⟩,hxx⟩:∃ x,R[k]=x:=⟨_,rfl⟩;rw[hxx] at e1 hall hro hrd;simp only at e1 hall hro hrd;clear hxx;obtain⟨ax,cx,rfl⟩:=(hrd wr hst.right.right.right).sub;have hbl:=sV hro.1 hro.2.1 htop.1 htop.2.1 (by omega) (width+1) (-1) false;have HW:=ac (xE hst (hrd.more _) hstb hro.1 hro.2.1 htop.1 htop.2.1 h1 (by omega) (by have:=hro.2.2;omega) (by have:=htop.2.2;omega) (by omega));have hal3:(acc++cL xl top width (width+1) (-1) false).length≤300000*(k+1):=by rw[ae];omega
   have HALL:=ac (⟨hall,hal3,hro⟩:_∧_∧_);have HRX:=ac (hrd.more (own 3 1 (.slice (some ⟨gA,0,none⟩) 0 0) 0 []));clear hall hal3 hbl hro hrd hst htop hstb;generalize acc++cL xl top width (width+1) (-1) false=acc2 at*
   go_wp2_with fail;refine HW.out.mono ?_;rintro e w5 ⟨rfl,h5⟩;have H5:=ac h5;clear h5 HW;go_wp2_with fail;exact⟨⟨k+1,acc2,xl,ax,cx,by omega,by go_num,rfl,HALL.out.2.1,HALL.out.1,HALL.out.2.2,HRX.out,H5.out⟩,by simp [intOf];omega⟩
  ·obtain rfl:k=R.length:=by omega
   rw[lM (by simp),gs,cy] at hall;have HRS:=ac hall;have hl2:acc.length≤90000000:=by omega
   have HW1:=ac (nh (hst.perm (ak _ _ _)) [48,48,48,48,48,48,48,48,48,48,48,49] (by decide) (by decide) (by simp only[List.length];omega));rw[p5] at HW1;clear hst hall htop hstb hal;go_wp2_with fail;refine HW1.out.mono ?_;rintro e w5 ⟨rfl,h5⟩;have HW2:=ac (nh h5 [48,48,48,48,48,48,48,48,48,48,48,49] (by decide) (by decide) (by rw[ae,show eK.length=12 by decide];simp only[List.length];omega));rw[p5,List.append_assoc] at HW2;clear h5 HW1;go_wp2_with fail;refine HW2.out.mono ?_;rintro e w6 ⟨rfl,h6⟩;have h6:St w0 w6 (aB Wb (acc++gO) false*(aA C*(own 3 1 (.slice (some ⟨gA,0,none⟩) 0 0) 0 []*F))):=h6;have HBY:=it h6;rw[HRS.out] at HBY;obtain⟨fin,hfin⟩:∃ fin,fin=res++gO:=⟨_,rfl⟩;rw[← hfin] at HBY;have hl1:(az false fin).length=(fin.length+7)/8:=dq _ _;rw[← hl1] at HBY;obtain⟨E,hE⟩:∃ E,E=az false fin:=⟨_,rfl⟩;rw[← hE] at HBY;rw[hfin] at hE;have HEE:=ac hE;clear hE hfin;have HBY:=ac HBY;clear h6 HW2 hl1;go_wp2_with fail;refine HBY.out.mono ?_;rintro e w7 ⟨v7,rfl,h7⟩;obtain⟨a7,c7,rfl⟩:=h7.reads.sub;have H7:=ac (h7.perm (show _=aB Wb fin false*(aA C*(own 3 1 (.slice (some ⟨gA,0,none⟩) 0 0) 0 []*(own 5 1 (.slice a7 E.length c7) E.length (E.map bv)*F))) by ac_rfl)).right.right.right;clear h7 HBY;go_wp2_with fail;go_ret2;rw[← HEE.out];exact⟨_,rfl,H7.out⟩
def bF (g:Nat):Value × List Nat:=(.slice (some ⟨g,0,none⟩) 0 0,[])
theorem Fh {w0 w:World} {F:SProp} (h:St w0 w F) (htab:dA w0 F) {bs:List UInt8} {vb:Value} (hb:Stb w0 F (fun w=>Reads w 1 vb bs.length (bs.map bv))) (hl:bs.length≤100000000) {width N:Nat} (h1:1≤width) (hw:width≤32768) (hN:N≤1000):
  Calls Tryz.prog 76 #[vb,.int .i64 (width:Int),.int .i64 (N:Int)] w fun e w'=>∃ (v:Value) (R:List (Value × List Nat)),
   e= .returned (.tuple #[v,.int .i64 (sX (fH (ag false bs) width N 0 [] []):Nat)])∧R.map Prod.snd=(sW (fH (ag false bs) width N 0 [] [])).map af∧St w0 w' (own 79 1 v R.length (R.map Prod.fst)*(aQ R*F)):=by
 have HB:=ac hb;have HT:=ac htab;have hbl:(ag false bs).length=8*bs.length:=bM _ _;have HBL:=ac hbl;obtain⟨res,hres⟩:∃ res,fH (ag false bs) width N 0 [] []=res:=⟨_,rfl⟩;rw[hres];have HRES:=ac hres;clear hres hbl htab;obtain⟨a0,c0,rfl⟩:=(hb w h).sub;have H:=ac h;clear h hb;have T:=pX;have hw1:¬ (width:Int)<1:=by omega
 have hw2:¬ (32768:Int)<width:=by omega
 have hw1d:decide ((width:Int)<1)=false:=decide_eq_false hw1;have hw2d:decide ((32768:Int)<width)=false:=decide_eq_false hw2;have hN0:¬ (N:Int)<0:=by omega
 have hN0d:decide ((N:Int)<0)=false:=decide_eq_false hN0;go_enter Tryz.func76,Tryz.ntmps76;go_wp2_with fail;refine(lV (low:=false) H.out HB.out (by omega)).mono ?_;rintro e w3 ⟨Rb,rfl,h3⟩;have H3:=ac h3;clear h3 H;go_wp2_with fail;refine(li H3.out (fun w h=>HT.out w h.right)).mono ?_;rintro e w4 ⟨C,rfl,h4⟩;have h5:=h4.lit #[] 79 0 rfl (by decide);have h6:=h5.lit #[] 3 0 rfl (by decide);obtain⟨gR,hgR⟩:∃ gR,gR=w4.heap.size:=⟨_,rfl⟩;obtain⟨gA,hgA⟩:∃ gA,gA=(w4.alloc (.cells #[] 79)).heap.size:=⟨_,rfl⟩;rw[← hgR,← hgA] at h6;have hgA2:gA=gR+1:=by rw[hgA,hgR];simp
 have h7:=h6.perm (show _=own 79 1 (.slice (some ⟨gR,0,none⟩) 0 0) 0 []*(aQ [bF gA]*(aA C*(aq Rb bs 0 false*F))) by
  rw[show aQ [bF gA]=own 3 1 (.slice (some ⟨gA,0,none⟩) 0 0) 0 []*bw from rfl,aW,cV];show own 3 1 (.slice (some ⟨gA,0,none⟩) 0 0) 0 []*(own 79 1 (.slice (some ⟨gR,0,none⟩) 0 0) 0 []*_)=_;ac_rfl)
 subst hgA2;have H7:=ac h7;clear h4 h5 h6 h7 H3 hgA;clear hw1d hw2d hN0d;go_wp2_with fail;rw[← hgR];clear hgR
 go_loopw [10,11,30] (fun vr va vi wr=>∃ (k p:Nat) (acc:List (List Nat)) (R:List (Value × List Nat)) (ao:Option Addr) (co:Nat) (xa:Value × List Nat) (aa:Option Addr) (ca:Nat),k≤N∧vi= .int .i64 k∧vr= .slice ao R.length co∧va= .slice aa xa.2.length ca∧xa.1= .slice aa xa.2.length ca∧xa∈bF (gR+1)::R∧(xa.2.Pairwise (· < ·)∧(∀ x∈xa.2,x<width)∧xa.2.length≤32768)∧p≤8*bs.length∧R.length=k∧R.map Prod.snd=acc.map af∧fH (ag false bs) width (N-k) p xa.2 acc=res∧
  St w0 wr (own 79 1 (.slice ao R.length co) R.length (R.map Prod.fst)*(aQ (bF (gR+1)::R)*(aA C*(aq Rb bs p false*F))))) (fun _ _ vi _=>N-(intOf vi).toNat)
 case atStart=>exact⟨0,0,[],[],some ⟨gR,0,none⟩,0,bF (gR+1),some ⟨gR+1,0,none⟩,0,by omega,rfl,rfl,rfl,rfl,by simp,⟨List.Pairwise.nil,(fun x hx=>by cases hx),by simp [bF]⟩,by omega,rfl,rfl,HRES.out,H7.out⟩
 case round=>
  clear H7 HRES;obtain⟨k,p,acc,R,ao,co,⟨xv,top⟩,aa,ca,hk,rfl,rfl,rfl,hxa,hmem,htop,hp,hRk,hRm,hall,hst⟩:=hrel;simp only at hxa htop hall;subst hxa
  by_cases hkn:k<N
  ·have hkl:(k:Int)<N:=by omega
   obtain⟨m,hm⟩:∃ m,N-k=m+1:=⟨N-k-1,by omega⟩;have hm2:N-(k+1)=m:=by omega
   rw[hm,fH] at hall;have HE:=ac (Ff (hst.perm (show _=aq Rb bs p false*(aA C*(own 79 1 (.slice ao R.length co) R.length (R.map Prod.fst)*(aQ (bF (gR+1)::R)*F))) by ac_rfl)));have hbd:=xG (t:=ag false bs) (width:=width) (p:=p) htop.1 htop.2.1 h1 (by rw[HBL.out];exact hp);have HCR:=ac (fun(w':World) (G:SProp) (h:St w0 w' (aA C*(aq Rb bs p false*G))) (hg:Stb w0 G (fun w=>Reads w 1 (.slice aa top.length ca) top.length (top.map nv)))=>xF h hg htop.1 htop.2.1 h1 hw (by have:=htop.2.2;omega) (by omega) hp);have hRl:R.length≤1000:=by omega
   have HRK:=ac hRk;have HRM:=ac hRm;have HM:=ac (⟨hm,hm2⟩:_∧_);have HMEM:=ac hmem;clear hst htop hRk hRm hm hm2 hmem;cases hend:gY (ag false bs) p with
   | true=>
    rw[hend] at HE hall;rw[if_pos rfl] at hall;have HRS:=ac hall;clear hall hbd HCR hend;go_wp2_with fail;refine HE.out.mono ?_;rintro e w5 ⟨rfl,h5⟩;have H5:=ac (St.own_nil 79 1 (jz h5.right.right.right.right));clear h5 HE;go_wp2_with fail;go_ret2;rw[← HRS.out];exact⟨_,[],rfl,rfl,H5.out⟩
   | false=>
    rw[hend] at HE hall;rw[if_neg (by decide)] at hall;clear hend;cases hr:gN (ag false bs) top width p with
    | mk q y=>
     rw[hr] at hall hbd HCR;rw[HBL.out] at hbd;obtain⟨hq,hb1,hb2⟩:=hbd;simp only at hq HCR;cases y with
     | inr er=>
      simp only at hall;have her:=hb2 er rfl;have hx0:¬ (er:Int)=0:=by omega
      have HRS:=ac hall;clear hall hr hb1 hb2 hq;go_wp2_with fail;refine HE.out.mono ?_;rintro e w5 ⟨rfl,h5⟩;have HC1:=ac (HCR.out _ _ (h5.perm (show _=aA C*(aq Rb bs p false*(own 79 1 (.slice ao R.length co) R.length (R.map Prod.fst)*(aQ (bF (gR+1)::R)*F))) by ac_rfl)) (fun w' h=>nN (bF (gR+1)::R) _ h.right _ HMEM.out));clear h5 HE HCR;go_wp2_with fail;refine HC1.out.mono ?_;rintro e w6 ⟨v6,rfl,h6⟩;obtain⟨a6,c6,rfl⟩:=h6.reads.sub;have H6:=ac (St.own_nil 79 1 (jz h6.right.right.right.right.right));clear h6 HC1;simp only[gr];go_wp2_with fail;go_ret2;rw[← HRS.out];exact⟨_,[],rfl,rfl,H6.out⟩
     | inl px=>
      simp only at hall;obtain⟨hpl,hpb⟩:=hb1 px rfl;have hcl:=mn px;have HRS:=ac (⟨hall,iz px,fun x hx=>by rw[← hpl];exact gK px x hx,by omega⟩:_∧(af px).Pairwise (· < ·)∧(∀ x∈af px,x<width)∧(af px).length≤32768);clear hall hr hb1 hb2 hpl hpb hcl;go_wp2_with fail;refine HE.out.mono ?_;rintro e w5 ⟨rfl,h5⟩;have HC1:=ac (HCR.out _ _ (h5.perm (show _=aA C*(aq Rb bs p false*(own 79 1 (.slice ao R.length co) R.length (R.map Prod.fst)*(aQ (bF (gR+1)::R)*F))) by ac_rfl)) (fun w' h=>nN (bF (gR+1)::R) _ h.right _ HMEM.out));clear h5 HE HCR;go_wp2_with fail;refine HC1.out.mono ?_;rintro e w6 ⟨v6,rfl,h6⟩;obtain⟨a6,c6,rfl⟩:=h6.reads.sub;have h6:St w0 w6 (own 3 1 (.slice a6 (af px).length c6) (af px).length ((af px).map nv)*(aA C*(aq Rb bs q false*(own 79 1 (.slice ao R.length co) R.length (R.map Prod.fst)*(aQ (bF (gR+1)::R)*F))))):=h6;have h6:=h6.perm (show _=own 79 1 (.slice ao R.length co) R.length (R.map Prod.fst)*(own 3 1 (.slice a6 (af px).length c6) (af px).length ((af px).map nv)*(aQ (bF (gR+1)::R)*(aA C*(aq Rb bs q false*F)))) by ac_rfl);have H6:=ac h6;clear h6 HC1;simp only[gr,gL];obtain⟨l5,hl5⟩:∃ l5,l5=(af px).length:=⟨_,rfl⟩;rw[← hl5] at H6 ⊢;have HL5:=ac hl5;clear hl5;go_wp2_with (at_builtin;apply ap);refine on (aG T rfl _ _ rfl rfl (H6.out.drop_alloc (.cells #[.slice a6 l5 c6] 79)) rfl (nO w6 (.slice a6 l5 c6)) (by intro u hu;rw[List.mem_singleton.1 hu];rfl) (by unfold maxLen;omega) (by omega) ?_);intro v7 w7 h7 _;have h7:St w0 w7 (own 79 1 v7 (R++[(Value.slice a6 l5 c6,af px)]).length ((R++[(Value.slice a6 l5 c6,af px)]).map Prod.fst)*(aQ (bF (gR+1)::(R++[(Value.slice a6 l5 c6,af px)]))*(aA C*(aq Rb bs q false*F)))):=by
       rw[← dV,mr,ae,List.map_append,← HL5.out];exact h7.perm (by simp only[eI,cO,gC];ac_rfl)
      have hsn:(R++[(Value.slice a6 l5 c6,af px)]).length=R.length+1:=by simp
      have hsm:(R++[(Value.slice a6 l5 c6,af px)]).map Prod.snd=(acc++[px]).map af:=by rw[List.map_append,List.map_append,HRM.out];rfl
      have hmm:(Value.slice a6 l5 c6,af px)∈bF (gR+1)::(R++[(Value.slice a6 l5 c6,af px)]):=by simp
      generalize R++[(Value.slice a6 l5 c6,af px)]=R2 at*
      obtain⟨aN,cN,rfl⟩:=h7.reads.sub;have HH:=ac (⟨hsn,hsm,hmm⟩:_∧_∧_);have H7:=ac h7;clear h7 hsn hsm hmm H6;go_wp2_with fail;obtain⟨g1,g2,g3⟩:=HH.out;have:=HRK.out;exact⟨⟨k+1,q,acc++[px],R2,aN,cN,(.slice a6 l5 c6,af px),a6,c6,by omega,by go_num,rfl,by rw[← HL5.out],by rw[← HL5.out],g3,HRS.out.2,hq,by omega,g2,by rw[HM.out.2];exact HRS.out.1,H7.out⟩,by simp [intOf];omega⟩
  ·obtain rfl:k=N:=by omega
   rw[b8,fH] at hall;have HRS:=ac hall;have HRM:=ac hRm;have HST:=ac (hst.perm (show _=own 3 1 (.slice (some ⟨gR+1,0,none⟩) 0 0) 0 []*(aA C*(aq Rb bs p false*(own 79 1 (.slice ao R.length co) R.length (R.map Prod.fst)*(aQ R*F)))) by
    rw[show aQ (bF (gR+1)::R)=own 3 1 (.slice (some ⟨gR+1,0,none⟩) 0 0) 0 []*aQ R from rfl];ac_rfl)).right.right.right
   clear hst hall hRm hRk htop hmem;go_wp2_with fail;go_ret2;rw[← HRS.out];exact⟨_,R,rfl,HRM.out,HST⟩
def gZ {α:Type}:(α ⊕ Nat)→Nat
 | .inl _=>0
 | .inr e=>e
def jA (t:List Nat):Nat→Nat→Nat→(Nat ⊕ Nat)
 | 0,_,_=> .inr 99
 | f+1,p,n=>
  match t[p]? with
  | none=> .inr 2
  | some b=>if b=0 then jA t f (p+1) (n+1) else if n<11 then .inr 3 else .inl (p+1)
def lp (t:List Nat) (p:Nat):Nat ⊕ Nat:=jA t (t.length+1-p) p 0
theorem xS {t:List Nat}:∀ (f p n:Nat),(∀ q,jA t f p n= .inl q→p<q∧q≤t.length)∧∀ e,jA t f p n= .inr e→e≠0∧e<100:=by
 intro f
 induction f with
 | zero=>intro p n;exact⟨(fun q h=>by cases h),(fun e h=>by cases h;exact⟨by decide,by decide⟩)⟩
 | succ f ih=>
  intro p n;rw[jA];cases hx:t[p]? with
  | none=>exact⟨(fun q h=>by cases h),(fun e h=>by cases h;exact⟨by decide,by decide⟩)⟩
  | some b=>
   have hlt:=(cG.1 hx).1;simp only
   by_cases hb:b=0
   ·rw[if_pos hb];have:=ih (p+1) (n+1);exact⟨fun q h=>by have:=this.1 q h;omega,this.2⟩
   ·rw[if_neg hb]
    by_cases hn:n<11
    ·rw[if_pos hn];exact⟨(fun q h=>by cases h),(fun e h=>by cases h;exact⟨by decide,by decide⟩)⟩
    ·rw[if_neg hn];exact⟨(fun q h=>by cases h;omega),(fun e h=>by cases h)⟩
def jV (t:List Nat) (two:Bool) (p:Nat):(Nat × Bool) ⊕ Nat:=
 if two then(match t[p]? with | none=> .inr 2 | some b=> .inl (p+1,decide (b=1))) else .inl (p,true)
def iZ (t:List Nat) (width:Nat) (top:List Nat) (s:Bool) (p:Nat):Nat × (List Nat ⊕ Nat):=if s then fV t width p else gN t top width p
theorem td {t:List Nat} {width:Nat} {top:List Nat} {s:Bool} {p:Nat} (htp:top.Pairwise (· < ·)) (htb:∀ x∈top,x<width) (h1:1≤width) (hp:p≤t.length):
  (iZ t width top s p).1≤t.length∧(∀ q,(iZ t width top s p).2= .inl q→q.length=width∧Bit q)∧∀ e,(iZ t width top s p).2= .inr e→e≠0∧e<100:=by
 cases s
 ·exact xG htp htb h1 hp
 ·exact xH hp
def i7 (t:List Nat) (width:Nat) (two:Bool):Nat→Nat→List Nat→List (List Nat)→(List (List Nat) ⊕ Nat)
 | 0,_,_,acc=> .inl acc
 | n+1,p,top,acc=>
  match lp t p with
  | .inr e=> .inr e
  | .inl p1=>
   match jV t two p1 with
   | .inr e=> .inr e
   | .inl (p2,s)=>
    match iZ t width top s p2 with
    | (_,.inr e)=> .inr e
    | (k,.inl px)=>i7 t width two n k (af px) (acc++[px])
theorem xT {bs:List UInt8} {p:Nat} (h:p<8*bs.length):(ag false bs)[p]? =some (cE bs false p)∧cE bs false p≤1∧bL bs false p 1=cE bs false p:=
 ⟨oU false bs p h,oR _ _ _,by rw[uL];simp [bL,bT]⟩
theorem xU {bs:List UInt8} {p:Nat} (h:8*bs.length≤p):(ag false bs)[p]? =none:=bh (by rw[bM];exact h)
def gP (n:Nat):Nat:=(12-n%8)%8
def aJ (two al s:Bool) (acc:List Nat):List Nat:=acc++(cond al (List.replicate (gP acc.length) 0) []++(eK++cond two [cond s 1 0] []))
def iA (two:Bool) (every:Int) (i:Nat):Bool:= !two||decide ((i:Int)%every=0)
def dI (width:Nat) (s:Bool) (l top:List Nat):List Nat:=cond s (bE false (bg 0 l width)) (cL l top width (width+1) (-1) false)
def dC (width:Nat) (two al:Bool) (every:Int):Nat→List Nat→List (List Nat)→List Nat→List Nat
 | _,_,[],acc=>acc
 | i,top,l::r,acc=>dC width two al every (i+1) l r (aJ two al (iA two every i) acc++dI width (iA two every i) l top)
def jB (two al fin:Bool) (acc:List Nat):List Nat:=cond fin (aJ two false true (aJ two false true (aJ two false true (aJ two false true (aJ two false true (aJ two al true acc)))))) acc
def fe (width:Nat) (two al fin:Bool) (every:Int) (L:List (List Nat)):List Nat:=jB two al fin (dC width two al every 0 [] L [])
theorem fI (two al s:Bool) (acc:List Nat):(aJ two al s acc).length≤acc.length+20:=by
 have h1:eK.length=12:=by decide
 rw[aJ,ae,ae,ae,h1];have h2:(cond al (List.replicate (gP acc.length) 0) []).length≤7:=by cases al <;> simp [gP];omega
 have h3:(cond two [cond s 1 0] []).length≤1:=by cases two <;> simp
 omega
theorem lq {two al s:Bool} {acc:List Nat} (h:Bit acc):Bit (aJ two al s acc):=by
 refine h.append (Bit.append ?_ (E5.append ?_))
 ·cases al
  ·exact iY
  ·exact lT _
 ·cases two
  ·exact iY
  ·cases s <;> (intro b hb;simp at hb;omega)
theorem Fi (width:Nat) (s:Bool) (l top:List Nat):Bit (dI width s l top):=by
 cases s
 ·exact xQ _ _ _
 ·exact E4 _ _
theorem p7 {width:Nat} (hw:width≤400) {s:Bool} {l top:List Nat} (hl:gX width l) (ht:top.Pairwise (· < ·)∧∀ x∈top,x<width):(dI width s l top).length≤290000:=by
 cases s
 ·have:=sV hl.1 hl.2.1 ht.1 ht.2 (by omega) (width+1) (-1) false;show(cL l top width (width+1) (-1) false).length≤_;omega
 ·have:=sY hl (by omega);show(bE false (bg 0 l width)).length≤_;omega
theorem xV {width:Nat} (hw:width≤400) {two al:Bool} {every:Int}:∀ (L:List (List Nat)) (i:Nat) (top acc:List Nat),(∀ l∈L,gX width l)→(top.Pairwise (· < ·)∧∀ x∈top,x<width)→(dC width two al every i top L acc).length≤acc.length+300000*L.length:=by
 intro L
 induction L with
 | nil=>intro i top acc _ _;simp [dC]
 | cons l r ih=>
  intro i top acc h ht;have hl:=h l (by simp);have h1:=p7 hw (s:=iA two every i) hl ht;have h2:=fI two al (iA two every i) acc;have h3:=ih (i+1) l (aJ two al (iA two every i) acc++dI width (iA two every i) l top) (fun x hx=>h x (by simp [hx])) ⟨hl.1,hl.2.1⟩;rw[ae] at h3;rw[dC,aO];omega
theorem Fj {width:Nat} {two al:Bool} {every:Int}:∀ (L:List (List Nat)) (i:Nat) (top acc:List Nat),Bit acc→Bit (dC width two al every i top L acc):=by
 intro L
 induction L with
 | nil=>intro i top acc h;exact h
 | cons l r ih=>intro i top acc h;rw[dC];exact ih _ _ _ ((lq h).append (Fi _ _ _ _))
theorem Fk {two al fin:Bool} {acc:List Nat} (h:Bit acc):Bit (jB two al fin acc):=by
 cases fin
 ·exact h
 ·exact lq (lq (lq (lq (lq (lq h)))))
theorem Fl {width:Nat} {two al:Bool} {every:Int}:∀ (L:List (List Nat)) (i:Nat) (top acc:List Nat),∃ X,dC width two al every i top L acc=acc++X:=by
 intro L
 induction L with
 | nil=>intro i top acc;exact⟨[],by simp [dC]⟩
 | cons l r ih=>
  intro i top acc;obtain⟨X,hX⟩:=ih (i+1) l (aJ two al (iA two every i) acc++dI width (iA two every i) l top);rw[dC,hX,aJ];simp only[List.append_assoc];exact⟨_,rfl⟩
theorem Fm (two al fin:Bool) (acc:List Nat):∃ X,jB two al fin acc=acc++X:=by
 cases fin
 ·exact⟨[],by simp [jB]⟩
 ·show ∃ X,aJ two false true (aJ two false true (aJ two false true (aJ two false true (aJ two false true (aJ two al true acc)))))=acc++X;simp only[aJ,List.append_assoc];exact⟨_,rfl⟩
theorem Fn {t:List Nat}:∀ (m f p n:Nat) (s:List Nat),m<f→11≤n+m→t.drop p=List.replicate m 0++1::s→jA t f p n= .inl (p+m+1):=by
 intro m
 induction m with
 | zero=>
  intro f p n s hf hn ht;obtain⟨f,rfl⟩:∃ g,f=g+1:=⟨f-1,by omega⟩;have hx:t[p]? =some 1:=by
   have:=congrArg (fun l=>l[0]?) ht;simpa [kI] using this
  rw[jA,hx];simp only;rw[if_neg (by decide),if_neg (by omega)]
 | succ m ih=>
  intro f p n s hf hn ht;obtain⟨f,rfl⟩:∃ g,f=g+1:=⟨f-1,by omega⟩;have hx:t[p]? =some 0:=by
   have:=congrArg (fun l=>l[0]?) ht;simpa [kI,gU] using this
  have hd:t.drop (p+1)=List.replicate m 0++1::s:=by
   rw[← kP,ht,gU];rfl
  rw[jA,hx];simp only;rw[if_pos trivial,ih f (p+1) (n+1) s (by omega) (by omega) hd]
  congr 1;omega
theorem Fo:eK=List.replicate 11 0++[1]:=by decide
theorem xW (a b:Nat) (s:List Nat):List.replicate a 0++(List.replicate b 0++s)=List.replicate (a+b) 0++s:=by
 rw[← List.append_assoc,List.replicate_append_replicate]
theorem Fp {t:List Nat} {width:Nat} {two al:Bool} {every:Int} (h1:1≤width) (hw:width≤32768):∀ (Ps:List (List Nat)) (i z:Nat) (Tp:List Nat) (p:Nat) (acc Y:List Nat) (out:List (List Nat)),(∀ P∈Ps,P.length=width∧Bit P)→Tp.length=width→p≤t.length→
  t.drop p=List.replicate z 0++((dC width two al every i (af Tp) (Ps.map af) acc).drop acc.length++Y)→i7 t width two Ps.length p (af Tp) out= .inl (out++Ps):=by
 intro Ps
 induction Ps with
 | nil=>intro i z Tp p acc Y out _ _ _ _;simp [i7]
 | cons P r ih=>
  intro i z Tp p acc Y out hP hT hp ht;obtain⟨hPl,hPb⟩:=hP P (by simp);rw[cO,dC] at ht;generalize hs:iA two every i=s at*
  obtain⟨X,hX⟩:=Fl (width:=width) (two:=two) (al:=al) (every:=every) (r.map af) (i+1) (af P) (aJ two al s acc++dI width s (af P) (af Tp));have hrest:(dC width two al every (i+1) (af P) (r.map af) (aJ two al s acc++dI width s (af P) (af Tp))).drop (aJ two al s acc++dI width s (af P) (af Tp)).length=X:=by
   rw[hX,lO]
  obtain⟨m,hm⟩:∃ m,cond al (List.replicate (gP acc.length) 0) []=List.replicate m 0:=by
   cases al
   ·exact⟨0,rfl⟩
   ·exact⟨_,rfl⟩
  have ht2:t.drop p=List.replicate (z+m+11) 0++(1::(cond two [cond s 1 0] []++(dI width s (af P) (af Tp)++(X++Y)))):=by
   rw[ht,hX,aJ,hm,Fo];simp only[List.append_assoc,lO];rw[xW,xW];rfl
  have hl:=congrArg List.length ht2;rw[a8,ae,df,aO] at hl;have hsk:lp t p= .inl (p+(z+m+11)+1):=Fn (z+m+11) _ p 0 _ (by omega) (by omega) ht2;have cZ:t.drop (p+(z+m+11)+1)=cond two [cond s 1 0] []++(dI width s (af P) (af Tp)++(X++Y)):=by
   have e:p+(z+m+11)+1=p+((z+m+11)+1):=by omega
   rw[e,← kP,ht2];have e2:(z+m+11)+1=(List.replicate (z+m+11) 0++[1]).length:=by simp
   rw[e2,show(List.replicate (z+m+11) 0++(1::(cond two [cond s 1 0] []++(dI width s (af P) (af Tp)++(X++Y)))):List Nat)=(List.replicate (z+m+11) 0++[1])++(cond two [cond s 1 0] []++(dI width s (af P) (af Tp)++(X++Y))) by simp,lO]
  generalize p+(z+m+11)+1=p1 at*
  have hl1:=congrArg List.length cZ;rw[a8,ae,ae] at hl1;obtain⟨p2,hfl,hd2,hp2⟩:∃ p2,jV t two p1= .inl (p2,s)∧t.drop p2=dI width s (af P) (af Tp)++(X++Y)∧p2≤t.length:=by
   cases two with
   | false=>
    have hst:s=true:=by rw[← hs];rfl
    refine⟨p1,by rw[jV,hst];rfl,cZ,?_⟩
    by_cases hc:p1≤t.length
    ·exact hc
    ·have:=(xS (t:=t) (t.length+1-p) p 0).1 p1 hsk;omega
   | true=>
    have hb:t[p1]? =some (cond s 1 0):=by
     have:=congrArg (fun l=>l[0]?) cZ;simpa [kI] using this
    have hlt:=(cG.1 hb).1;refine⟨p1+1,?_,?_,by omega⟩
    ·rw[jV,if_pos rfl,hb];cases s <;> rfl
    ·rw[← kP,cZ];rfl
  have hrow:iZ t width (af Tp) s p2=(p2+(dI width s (af P) (af Tp)).length,.inl P):=by
   cases s with
   | true=>
    have:=xM hPb (by omega) hp2 (r:=X++Y) (by rw[hPl];exact hd2);rw[hPl] at this;exact this
   | false=>
    have:=xL hPb (by rw[hT,hPl]) (by omega) hp2 (r:=X++Y) (by rw[hPl];exact hd2);rw[hPl] at this;exact this
  have hd3:=jx hd2;have hl2:=congrArg List.length hd2;rw[a8,ae] at hl2;rw[aO,i7,hsk];simp only;rw[hfl];simp only;rw[hrow];simp only;rw[ih (i+1) 0 P _ (aJ two al s acc++dI width s (af P) (af Tp)) Y (out++[P]) (fun Q hQ=>hP Q (by simp [hQ])) hPl (by omega) (by rw[hrest];exact hd3),List.append_assoc];rfl
def xX (two:Bool) (every:Int) (al fin:Bool):Array Value:=#[.bool two,.int .i64 every,.bool al,.bool fin]
theorem lr {w0 w:World} {F:SProp} {Wb:Nat} {acc:List Nat} (h:St w0 w (aB Wb acc false*F)) (two al fin s:Bool) (every:Int) (hal:acc.length≤90000000000000):
  Calls Tryz.prog 97 #[.pointer (some ⟨Wb,0,none⟩),.agg (xX two every al fin),.bool s] w fun e w'=>e= .returned (.tuple #[])∧St w0 w' (aB Wb (aJ two al s acc) false*F):=by
 have h2:St w0 (w.alloc (.cells #[.bool two,.int .i64 every,.bool al,.bool fin] 84)) (blk w.heap.size (.cells #[.bool two,.int .i64 every,.bool al,.bool fin] 84 (0,0))*(aB Wb acc false*F)):=h.alloc _;clear h;unfold xX;have hst:=h2;clear h2;cases al
 ·have HA:=ac (rfl:acc=acc);have c2:=hst.cell 2 rfl;go_enter Tryz.func97,Tryz.ntmps97;go_wp2_with fail
  go_loopg [13] 0 (fun g vn wr=>St w0 wr (blk w.heap.size (.cells #[.bool two,.int .i64 every,.bool false,.bool fin] 84 (0,0))*(aB Wb acc false*F)))
  case atStart=>exact hst
  case round=>
   clear hst c2;have hst:=hrel;clear hrel;have c2:=hst.cell 2 rfl;have HW:=ac (nh (hst.perm (ak _ _ _)) [48,48,48,48,48,48,48,48,48,48,48,49] (by decide) (by decide) (by simp only[List.length];omega));rw[p5] at HW;clear hst;go_wp2_with fail;refine HW.out.mono ?_;rintro e w5 ⟨rfl,h5⟩;clear HW;have h5:=h5.perm (ak _ _ _);have y0:=h5.cell 0 rfl;have hal6:(acc++eK).length≤99999999999950:=by rw[ae,show eK.length=12 by decide];omega
   cases two
   ·have HE:=ac (show acc++eK=aJ false false s acc by rw[aJ];simp only[cond,cy,List.append_assoc,bH] <;> first | rfl | (rw[HA.out];simp only[List.append_assoc]));have H5:=ac h5.right;clear h5 hal6;go_wp2_with fail
    go_end0
    exact⟨rfl,by rw[← HE.out];exact H5.out⟩
   ·cases s
    ·have HW2:=ac (dz (h5.perm (ak _ _ _)) 0 1 (by decide) (fun _=>by decide) (by decide) (by omega));have HE:=ac (show(acc++eK)++bx false 0 1=aJ true false false acc by rw[aJ,show bx false 0 1=[0] by decide];simp only[cond,List.append_assoc,bH] <;> first | rfl | (rw[HA.out];simp only[List.append_assoc]));clear h5 hal6;go_wp2_with fail;refine HW2.out.mono ?_;rintro e w6 ⟨rfl,h6⟩;have H6:=ac (h6.perm (ak _ _ _)).right;clear h6 HW2;go_wp2_with fail
     go_end0
     exact⟨rfl,by rw[← HE.out];exact H6.out⟩
    ·have HW2:=ac (dz (h5.perm (ak _ _ _)) 1 1 (by decide) (fun _=>by decide) (by decide) (by omega));have HE:=ac (show(acc++eK)++bx false 1 1=aJ true false true acc by rw[aJ,show bx false 1 1=[1] by decide];simp only[cond,List.append_assoc,bH] <;> first | rfl | (rw[HA.out];simp only[List.append_assoc]));clear h5 hal6;go_wp2_with fail;refine HW2.out.mono ?_;rintro e w6 ⟨rfl,h6⟩;have H6:=ac (h6.perm (ak _ _ _)).right;clear h6 HW2;go_wp2_with fail
     go_end0
     exact⟨rfl,by rw[← HE.out];exact H6.out⟩
 ·have hz:gP acc.length≤7:=by rw[gP];omega
  go_enter Tryz.func97,Tryz.ntmps97;go_wp2_with fail
  go_loopg [13] (gP acc.length) (fun g vn wr=>∃ j:Nat,j+g=gP acc.length∧St w0 wr (blk w.heap.size (.cells #[.bool two,.int .i64 every,.bool true,.bool fin] 84 (0,0))*(aB Wb (acc++List.replicate j 0) false*F)))
  case atStart=>exact⟨0,by omega,by simpa using hst⟩
  case round=>
   clear hst;obtain⟨j,hj,hst⟩:=hrel;have c2:=hst.cell 2 rfl;have hla:(acc++List.replicate j 0).length=acc.length+j:=by simp
   have HLN:=ac (Co (hst.perm (ak _ _ _)))
   by_cases hg:gk=0
   ·subst hg;obtain rfl:j=gP acc.length:=by omega
    have h8:((((acc++List.replicate (gP acc.length) 0).length:Nat):Int)%8 != 4)=false:=by
     have:(((acc++List.replicate (gP acc.length) 0).length:Nat):Int)%8=4:=by rw[hla,gP];omega
     rw[this];rfl
    obtain⟨A1,hA1⟩:∃ A1,A1=acc++List.replicate (gP acc.length) 0:=⟨_,rfl⟩;rw[← hA1] at hst HLN h8 hla;have HA:=ac hA1;clear hA1 hj;go_wp2_with fail;refine HLN.out.mono ?_;rintro e w4 ⟨rfl,rfl⟩;clear HLN;have HW:=ac (nh (hst.perm (ak _ _ _)) [48,48,48,48,48,48,48,48,48,48,48,49] (by decide) (by decide) (by simp only[List.length];omega));rw[p5] at HW;clear hst;go_wp2_with fail;refine HW.out.mono ?_;rintro e w5 ⟨rfl,h5⟩;clear HW;have h5:=h5.perm (ak _ _ _);have y0:=h5.cell 0 rfl;have hal6:(A1++eK).length≤99999999999950:=by rw[ae,show eK.length=12 by decide];omega
    cases two
    ·have HE:=ac (show A1++eK=aJ false true s acc by rw[aJ];simp only[cond,cy,List.append_assoc,bH] <;> first | rfl | (rw[HA.out];simp only[List.append_assoc]));have H5:=ac h5.right;clear h5 hal6;go_wp2_with fail
     go_end0
     exact⟨rfl,by rw[← HE.out];exact H5.out⟩
    ·cases s
     ·have HW2:=ac (dz (h5.perm (ak _ _ _)) 0 1 (by decide) (fun _=>by decide) (by decide) (by omega));have HE:=ac (show(A1++eK)++bx false 0 1=aJ true true false acc by rw[aJ,show bx false 0 1=[0] by decide];simp only[cond,List.append_assoc,bH] <;> first | rfl | (rw[HA.out];simp only[List.append_assoc]));clear h5 hal6;go_wp2_with fail;refine HW2.out.mono ?_;rintro e w6 ⟨rfl,h6⟩;have H6:=ac (h6.perm (ak _ _ _)).right;clear h6 HW2;go_wp2_with fail
      go_end0
      exact⟨rfl,by rw[← HE.out];exact H6.out⟩
     ·have HW2:=ac (dz (h5.perm (ak _ _ _)) 1 1 (by decide) (fun _=>by decide) (by decide) (by omega));have HE:=ac (show(A1++eK)++bx false 1 1=aJ true true true acc by rw[aJ,show bx false 1 1=[1] by decide];simp only[cond,List.append_assoc,bH] <;> first | rfl | (rw[HA.out];simp only[List.append_assoc]));clear h5 hal6;go_wp2_with fail;refine HW2.out.mono ?_;rintro e w6 ⟨rfl,h6⟩;have H6:=ac (h6.perm (ak _ _ _)).right;clear h6 HW2;go_wp2_with fail
      go_end0
      exact⟨rfl,by rw[← HE.out];exact H6.out⟩
   ·have h8:((((acc++List.replicate j 0).length:Nat):Int)%8 != 4)=true:=by
     rw[bne_iff_ne,hla];rw[gP] at hj;omega
    have HW:=ac (dz (hst.perm (ak _ _ _)) 0 1 (by decide) (fun _=>by decide) (by decide) (by omega));rw[show bx false 0 1=[0] by decide,List.append_assoc,← iO] at HW;clear hst;go_wp2_with fail;refine HLN.out.mono ?_;rintro e w4 ⟨rfl,rfl⟩;clear HLN;go_wp2_with fail;refine HW.out.mono ?_;rintro e w5 ⟨rfl,h5⟩;have H5:=ac (h5.perm (ak _ _ _));clear h5 HW h8 c2 hla;go_wp2_with fail
    go_roundg (gk-1)
    case measure=>omega
    case rel=>exact⟨j+1,by omega,H5.out⟩
theorem xY {w0 w:World} {F:SProp} (h:St w0 w F) (two al fin:Bool) (every:Int):
  Calls Tryz.prog 96 #[.agg #[.bool two,.int .i64 every,.bool al,.bool fin]] w fun e w'=>e= .returned (.bool (decide (1≤every)|| !two))∧St w0 w' F:=by
 have h2:St w0 (w.alloc (.cells #[.bool two,.int .i64 every,.bool al,.bool fin] 84)) F:=h.drop_alloc _;have H:=ac h2;clear h h2
 by_cases hev:1≤every
 ·have hd:decide (1≤every)=true:=decide_eq_true hev;rw[hd];go_enter Tryz.func96,Tryz.ntmps96;go_wp2_with fail;go_ret;exact⟨by simp,H.out⟩
 ·have hd:decide (1≤every)=false:=decide_eq_false hev;rw[hd];go_enter Tryz.func96,Tryz.ntmps96;go_wp2_with fail;go_ret;exact⟨by simp,H.out⟩
def i9 (two:Bool):Nat→List Nat→List Nat
 | 0,a=>a
 | n+1,a=>i9 two n (aJ two false true a)
theorem Fq {w0 w:World} {F:SProp} (h:St w0 w F) (htab:dA w0 F) {R:List (Value × List Nat)} {v:Value} (hv:Stb w0 F (fun w=>Reads w 1 v R.length (R.map Prod.fst))) (hr:Stb w0 F (fun w=>∀ x∈R,Reads w 1 x.1 x.2.length (x.2.map nv))) {width:Nat} (h1:1≤width) (hw:width≤400) (hR:∀ x∈R,gX width x.2) (hN:R.length≤300) (al fin:Bool) (every:Int):
  Calls Tryz.prog 45 #[v,.int .i64 (width:Int),.agg #[.bool false,.int .i64 every,.bool al,.bool fin]] w fun e w'=>∃ v',e= .returned (.tuple #[v',.int .i64 0])∧St w0 w' (own 5 1 v' (az false (fe width false al fin every (R.map Prod.snd))).length ((az false (fe width false al fin every (R.map Prod.snd))).map bv)*F):=by
 obtain⟨a0,c0,rfl⟩:=(hv w h).sub;have HV:=ac hv;have HRR:=ac hr;have HRO:=ac hR;have HT:=ac htab;have hw1:¬ (width:Int)<1:=by omega
 have hw2:¬ (32768:Int)<width:=by omega
 have hw1d:decide ((width:Int)<1)=false:=decide_eq_false hw1;have hw2d:decide ((32768:Int)<width)=false:=decide_eq_false hw2;obtain⟨res,hres⟩:∃ res,dC width false al every 0 [] (R.map Prod.snd) []=res:=⟨_,rfl⟩;rw[fe,hres];have HRES:=ac hres;clear hres htab hv hr hR;have hrt:(decide (1≤every)|| !false)=true:=by simp
 have h2:St w0 (w.alloc (.cells #[.bool false,.int .i64 every,.bool al,.bool fin] 84)) (blk w.heap.size (.cells #[.bool false,.int .i64 every,.bool al,.bool fin] 84 (0,0))*F):=h.alloc _;have H:=ac h2;clear h h2;obtain⟨bO,hbO⟩:∃ bO,bO=w.heap.size:=⟨_,rfl⟩;rw[← hbO] at H;go_enter Tryz.func45,Tryz.ntmps45;go_wp2_with fail;refine(xY H.out false al fin every).mono ?_;rintro e w2 ⟨rfl,h2⟩;rw[hrt,← hbO];clear hbO;have H2:=ac h2;clear h2 H;go_wp2_with fail;refine(ld (low:=false) H2.out).mono ?_;rintro e w3 ⟨Wb,rfl,h3⟩;have H3:=ac h3;clear h3 H2;go_wp2_with fail;refine(li H3.out (fun w h=>HT.out w h.right.right)).mono ?_;rintro e w4 ⟨C,rfl,h4⟩;have h5:=(h4.lit #[] 3 0 rfl (by decide)).perm (show _=aA C*(aB Wb [] false*(blk bO (.cells #[.bool false,.int .i64 every,.bool al,.bool fin] 84 (0,0))*(own 3 1 (.slice (some ⟨w4.heap.size,0,none⟩) 0 0) 0 []*F))) by simp only;ac_rfl);have H5:=ac h5;clear h4 h5 H3;go_wp2_with fail;generalize w4.heap.size=gA at*
 go_loopw [10,31] (fun va vi wr=>∃ (k:Nat) (acc top:List Nat) (aa:Option Addr) (ca:Nat),k≤R.length∧vi= .int .i64 k∧va= .slice aa top.length ca∧acc.length≤300000*k∧dC width false al every k top ((R.map Prod.snd).drop k) acc=res∧(top.Pairwise (· < ·)∧(∀ x∈top,x<width)∧top.length≤400)∧
   Stb w0 (own 3 1 (.slice (some ⟨gA,0,none⟩) 0 0) 0 []*F) (fun w=>Reads w 1 (.slice aa top.length ca) top.length (top.map nv))∧St w0 wr (aA C*(aB Wb acc false*(blk bO (.cells #[.bool false,.int .i64 every,.bool al,.bool fin] 84 (0,0))*(own 3 1 (.slice (some ⟨gA,0,none⟩) 0 0) 0 []*F))))) (fun _ vi _=>R.length-(intOf vi).toNat)
 case atStart=>exact⟨0,[],[],some ⟨gA,0,none⟩,0,by omega,rfl,rfl,by simp,HRES.out,⟨List.Pairwise.nil,(fun x hx=>by cases hx),by simp⟩,Stb.of_own,H5.out⟩
 case round=>
  clear H5 HRES;obtain⟨k,acc,top,aa,ca,hk,rfl,rfl,hal,hall,htop,hstb,hst⟩:=hrel;have htop2:top.Pairwise (· < ·)∧∀ x∈top,x<width:=⟨htop.1,htop.2.1⟩
  by_cases hkn:k<R.length
  ·have hkl:(k:Int)<R.length:=by omega
   obtain⟨g,o,rfl,e1⟩:=(HV.out wr hst.right.right.right.right).at_ hkn;have hx:=au hkn;rw[aC,hx] at e1;simp only[b7] at e1;have hmem:=cT hkn;have hd:(R.map Prod.snd).drop k=R[k].2::(R.map Prod.snd).drop (k+1):=by
    rw[dX (by simpa using hkn),kd]
   rw[hd,dC] at hall;have hro:=HRO.out _ hmem;have hrd:Stb w0 F (fun w=>Reads w 1 R[k].1 R[k].2.length (R[k].2.map nv)):=fun w h=>HRR.out w h _ hmem
   clear hx hd hmem;obtain⟨⟨xv,xl⟩,hxx⟩:∃ x,R[k]=x:=⟨_,rfl⟩;rw[hxx] at e1 hall hro hrd;simp only at e1 hall hro hrd;clear hxx;obtain⟨ax,cx,rfl⟩:=(hrd wr hst.right.right.right.right).sub;have hsg:iA false every k=true:=rfl;rw[hsg] at hall;clear hsg;have HEND:=ac (lr (hst.perm (show _=aB Wb acc false*(aA C*(blk bO (.cells #[.bool false,.int .i64 every,.bool al,.bool fin] 84 (0,0))*(own 3 1 (.slice (some ⟨gA,0,none⟩) 0 0) 0 []*F))) by ac_rfl)) false al fin true every (by omega));have hel:=fI false al true acc;have hbl:=p7 (s:=true) hw hro htop2;have HB:=ac (fun(w':World) (h:St w0 w' (aA C*(aB Wb (aJ false al true acc) false*(blk bO (.cells #[.bool false,.int .i64 every,.bool al,.bool fin] 84 (0,0))*(own 3 1 (.slice (some ⟨gA,0,none⟩) 0 0) 0 []*F)))))=>(by have C:=sR h ((hrd.more _).more _) hro.1 hro.2.1 h1 (by omega) (by have:=hro.2.2;omega) (by have:=fI false al true acc;omega);rw[show bE false (bg 0 xl width)=dI width true xl top from rfl] at C;exact C));have hal3:(aJ false al true acc++dI width true xl top).length≤300000*(k+1):=by rw[ae];omega
   have HALL:=ac (⟨hall,hal3,hro⟩:_∧_∧_);have HRX:=ac (hrd.more (own 3 1 (.slice (some ⟨gA,0,none⟩) 0 0) 0 []));have c0:=hst.right.right.cell 0 rfl;have c1:=hst.right.right.cell 1 rfl;have c2:=hst.right.right.cell 2 rfl;have c3:=hst.right.right.cell 3 rfl;clear hall hal3 hbl hro hrd hst htop htop2 hstb hel;generalize aJ false al true acc++dI width true xl top=acc2 at*
   go_wp2_with fail;refine HEND.out.mono ?_;rintro e w5 ⟨rfl,h5⟩;have HW:=ac (HB.out _ (h5.perm (ak _ _ _)));clear h5 HEND HB c0 c1 c2 c3;go_wp2_with fail;refine HW.out.mono ?_;rintro e w6 ⟨rfl,h6⟩;have H6:=ac h6;clear h6 HW;go_wp2_with fail;exact⟨⟨k+1,acc2,xl,ax,cx,by omega,by go_num,rfl,HALL.out.2.1,HALL.out.1,HALL.out.2.2,HRX.out,H6.out⟩,by simp [intOf];omega⟩
  ·obtain rfl:k=R.length:=by omega
   rw[lM (by simp),dC] at hall;subst hall;have ha9:acc.length≤90000000:=by omega
   have c3:=hst.right.right.cell 3 rfl;have c0:=hst.right.right.cell 0 rfl;have c1:=hst.right.right.cell 1 rfl;have c2:=hst.right.right.cell 2 rfl;clear hstb htop htop2 hal;cases fin
   ·have HBY:=it (hst.perm (show _=aB Wb acc false*(aA C*(blk bO (.cells #[.bool false,.int .i64 every,.bool al,.bool false] 84 (0,0))*(own 3 1 (.slice (some ⟨gA,0,none⟩) 0 0) 0 []*F))) by ac_rfl));have hl1:(az false acc).length=(acc.length+7)/8:=dq _ _;rw[← hl1] at HBY;obtain⟨E,hE⟩:∃ E,E=az false acc:=⟨_,rfl⟩;rw[← hE] at HBY;have HEE:=ac hE;clear hE;have HBY:=ac HBY;clear hst hl1;go_wp2_with fail;refine HBY.out.mono ?_;rintro e w7 ⟨v7,rfl,h7⟩;obtain⟨a7,c7,rfl⟩:=h7.reads.sub;have H7:=ac (h7.perm (show _=aB Wb acc false*(aA C*(blk bO (.cells #[.bool false,.int .i64 every,.bool al,.bool false] 84 (0,0))*(own 3 1 (.slice (some ⟨gA,0,none⟩) 0 0) 0 []*(own 5 1 (.slice a7 E.length c7) E.length (E.map bv)*F)))) by ac_rfl)).right.right.right.right;clear h7 HBY;go_wp2_with fail;go_ret2;rw[show az false (jB false al false acc)=E from HEE.out.symm];exact⟨_,rfl,H7.out⟩
   ·have HEND:=ac (lr (hst.perm (show _=aB Wb acc false*(aA C*(blk bO (.cells #[.bool false,.int .i64 every,.bool al,.bool true] 84 (0,0))*(own 3 1 (.slice (some ⟨gA,0,none⟩) 0 0) 0 []*F))) by ac_rfl)) false al true true every (by omega));have hel:=fI false al true acc;clear hst;go_wp2_with fail;refine HEND.out.mono ?_;rintro e w5 ⟨rfl,h5⟩;have h5:=h5.perm (show _=blk bO (.cells #[.bool false,.int .i64 every,.bool al,.bool true] 84 (0,0))*(aB Wb (aJ false al true acc) false*(aA C*(own 3 1 (.slice (some ⟨gA,0,none⟩) 0 0) 0 []*F))) by ac_rfl);have f2:=h5.free 2;have d2:=h5.cell 2 rfl;have h6:=h5.set 2 (.bool false);have h6:St w0 _ (blk bO (.cells #[.bool false,.int .i64 every,.bool false,.bool true] 84 (0,0))*(aB Wb (aJ false al true acc) false*(aA C*(own 3 1 (.slice (some ⟨gA,0,none⟩) 0 0) 0 []*F)))):=h6;have H6:=ac h6;obtain⟨fin9,hf9⟩:∃ fin9,fin9=jB false al true acc:=⟨_,rfl⟩;have HF9:=ac hf9;have h59:i9 false 5 (aJ false al true acc)=fin9:=by rw[hf9];rfl
    have hl59:(aJ false al true acc).length≤90000100:=by omega
    generalize aJ false al true acc=acc1 at*
    have H59:=ac h59;clear h5 h6 HEND c0 c1 c2 c3 hel hf9 h59;go_wp2_with fail;generalize w5.setCell ⟨bO,2,none⟩ (.bool false)=w6 at*
    clear f2 d2
    go_loopw [73] (fun vq wr=>∃ (q:Nat) (a:List Nat),q≤5∧vq= .int .i64 q∧a.length≤90000100+20*q∧i9 false (5-q) a=fin9∧St w0 wr (blk bO (.cells #[.bool false,.int .i64 every,.bool false,.bool true] 84 (0,0))*(aB Wb a false*(aA C*(own 3 1 (.slice (some ⟨gA,0,none⟩) 0 0) 0 []*F))))) (fun vq _=>5-(intOf vq).toNat)
    case atStart=>exact⟨0,acc1,by omega,rfl,by omega,H59.out,H6.out⟩
    case round=>
     clear H6 H59;obtain⟨q,a,hq,rfl,hal,hall,hst⟩:=hrel
     by_cases hq5:q<5
     ·have hqi:(q:Int)<5:=by omega
      obtain⟨m,hm⟩:∃ m,5-q=m+1:=⟨4-q,by omega⟩;rw[hm,i9] at hall;have hel:=fI false false true a;have c0:=hst.cell 0 rfl;have c1:=hst.cell 1 rfl;have c2:=hst.cell 2 rfl;have c3:=hst.cell 3 rfl;have HEND:=ac (lr (hst.perm (ak _ _ _)) false false true true every (by omega));have HH:=ac (⟨by omega,by rw[show 5-(q+1)=m by omega];exact hall⟩:(aJ false false true a).length≤90000100+20*(q+1)∧i9 false (5-(q+1)) (aJ false false true a)=fin9);clear hst hall hm hel;generalize aJ false false true a=a2 at*
      go_wp2_with fail;refine HEND.out.mono ?_;rintro e w7 ⟨rfl,h7⟩;have H7:=ac (h7.perm (ak _ _ _));clear h7 HEND c0 c1 c2 c3;go_wp2_with fail;exact⟨⟨q+1,a2,by omega,by go_num,HH.out.1,HH.out.2,H7.out⟩,by simp [intOf];omega⟩
     ·obtain rfl:q=5:=by omega
      rw[b8,i9] at hall;have HA9:=ac hall;have HBY:=it (hst.perm (ak _ _ _));have hl1:(az false a).length=(a.length+7)/8:=dq _ _;rw[← hl1] at HBY;obtain⟨E,hE⟩:∃ E,E=az false a:=⟨_,rfl⟩;rw[← hE] at HBY;have HEE:=ac hE;clear hE;have HBY:=ac HBY;clear hst hl1 hall;go_wp2_with fail;refine HBY.out.mono ?_;rintro e w7 ⟨v7,rfl,h7⟩;obtain⟨a7,c7,rfl⟩:=h7.reads.sub;have H7:=ac (h7.perm (show _=aB Wb a false*(blk bO (.cells #[.bool false,.int .i64 every,.bool false,.bool true] 84 (0,0))*(aA C*(own 3 1 (.slice (some ⟨gA,0,none⟩) 0 0) 0 []*(own 5 1 (.slice a7 E.length c7) E.length (E.map bv)*F)))) by ac_rfl)).right.right.right.right;clear h7 HBY;go_wp2_with fail;go_ret2;rw[← HF9.out,← HA9.out,← HEE.out];exact⟨_,rfl,H7.out⟩
theorem Fr {w0 w:World} {F:SProp} (h:St w0 w F) (htab:dA w0 F) {R:List (Value × List Nat)} {v:Value} (hv:Stb w0 F (fun w=>Reads w 1 v R.length (R.map Prod.fst))) (hr:Stb w0 F (fun w=>∀ x∈R,Reads w 1 x.1 x.2.length (x.2.map nv))) {width:Nat} (h1:1≤width) (hw:width≤400) (hR:∀ x∈R,gX width x.2) (hN:R.length≤300) (al fin:Bool) (every:Int) (hev:1≤every):
  Calls Tryz.prog 45 #[v,.int .i64 (width:Int),.agg #[.bool true,.int .i64 every,.bool al,.bool fin]] w fun e w'=>∃ v',e= .returned (.tuple #[v',.int .i64 0])∧St w0 w' (own 5 1 v' (az false (fe width true al fin every (R.map Prod.snd))).length ((az false (fe width true al fin every (R.map Prod.snd))).map bv)*F):=by
 obtain⟨a0,c0,rfl⟩:=(hv w h).sub;have HV:=ac hv;have HRR:=ac hr;have HRO:=ac hR;have HT:=ac htab;have hw1:¬ (width:Int)<1:=by omega
 have hw2:¬ (32768:Int)<width:=by omega
 have hw1d:decide ((width:Int)<1)=false:=decide_eq_false hw1;have hw2d:decide ((32768:Int)<width)=false:=decide_eq_false hw2;obtain⟨res,hres⟩:∃ res,dC width true al every 0 [] (R.map Prod.snd) []=res:=⟨_,rfl⟩;rw[fe,hres];have HRES:=ac hres;clear hres htab hv hr hR;have hrt:(decide (1≤every)|| !true)=true:=by simp;omega
 have h2:St w0 (w.alloc (.cells #[.bool true,.int .i64 every,.bool al,.bool fin] 84)) (blk w.heap.size (.cells #[.bool true,.int .i64 every,.bool al,.bool fin] 84 (0,0))*F):=h.alloc _;have H:=ac h2;clear h h2;obtain⟨bO,hbO⟩:∃ bO,bO=w.heap.size:=⟨_,rfl⟩;rw[← hbO] at H;go_enter Tryz.func45,Tryz.ntmps45;go_wp2_with fail;refine(xY H.out true al fin every).mono ?_;rintro e w2 ⟨rfl,h2⟩;rw[hrt,← hbO];clear hbO;have H2:=ac h2;clear h2 H;go_wp2_with fail;refine(ld (low:=false) H2.out).mono ?_;rintro e w3 ⟨Wb,rfl,h3⟩;have H3:=ac h3;clear h3 H2;go_wp2_with fail;refine(li H3.out (fun w h=>HT.out w h.right.right)).mono ?_;rintro e w4 ⟨C,rfl,h4⟩;have h5:=(h4.lit #[] 3 0 rfl (by decide)).perm (show _=aA C*(aB Wb [] false*(blk bO (.cells #[.bool true,.int .i64 every,.bool al,.bool fin] 84 (0,0))*(own 3 1 (.slice (some ⟨w4.heap.size,0,none⟩) 0 0) 0 []*F))) by simp only;ac_rfl);have H5:=ac h5;clear h4 h5 H3;go_wp2_with fail;generalize w4.heap.size=gA at*
 go_loopw [10,31] (fun va vi wr=>∃ (k:Nat) (acc top:List Nat) (aa:Option Addr) (ca:Nat),k≤R.length∧vi= .int .i64 k∧va= .slice aa top.length ca∧acc.length≤300000*k∧dC width true al every k top ((R.map Prod.snd).drop k) acc=res∧(top.Pairwise (· < ·)∧(∀ x∈top,x<width)∧top.length≤400)∧
   Stb w0 (own 3 1 (.slice (some ⟨gA,0,none⟩) 0 0) 0 []*F) (fun w=>Reads w 1 (.slice aa top.length ca) top.length (top.map nv))∧St w0 wr (aA C*(aB Wb acc false*(blk bO (.cells #[.bool true,.int .i64 every,.bool al,.bool fin] 84 (0,0))*(own 3 1 (.slice (some ⟨gA,0,none⟩) 0 0) 0 []*F))))) (fun _ vi _=>R.length-(intOf vi).toNat)
 case atStart=>exact⟨0,[],[],some ⟨gA,0,none⟩,0,by omega,rfl,rfl,by simp,HRES.out,⟨List.Pairwise.nil,(fun x hx=>by cases hx),by simp⟩,Stb.of_own,H5.out⟩
 case round=>
  clear H5 HRES;obtain⟨k,acc,top,aa,ca,hk,rfl,rfl,hal,hall,htop,hstb,hst⟩:=hrel;have htop2:top.Pairwise (· < ·)∧∀ x∈top,x<width:=⟨htop.1,htop.2.1⟩
  by_cases hkn:k<R.length
  ·have hkl:(k:Int)<R.length:=by omega
   obtain⟨g,o,rfl,e1⟩:=(HV.out wr hst.right.right.right.right).at_ hkn;have hx:=au hkn;rw[aC,hx] at e1;simp only[b7] at e1;have hmem:=cT hkn;have hd:(R.map Prod.snd).drop k=R[k].2::(R.map Prod.snd).drop (k+1):=by
    rw[dX (by simpa using hkn),kd]
   rw[hd,dC] at hall;have hro:=HRO.out _ hmem;have hrd:Stb w0 F (fun w=>Reads w 1 R[k].1 R[k].2.length (R[k].2.map nv)):=fun w h=>HRR.out w h _ hmem
   clear hx hd hmem;obtain⟨⟨xv,xl⟩,hxx⟩:∃ x,R[k]=x:=⟨_,rfl⟩;rw[hxx] at e1 hall hro hrd;simp only at e1 hall hro hrd;clear hxx;obtain⟨ax,cx,rfl⟩:=(hrd wr hst.right.right.right.right).sub;have hev:=hev;have hev0:¬ every=0:=by omega
   by_cases hz:(k:Int)%every=0
   ·have hsg:iA true every k=true:=decide_eq_true hz;have hzb:((k:Int)%every==0)=true:=by simpa using hz
    rw[hsg] at hall;clear hsg;have HEND:=ac (lr (hst.perm (show _=aB Wb acc false*(aA C*(blk bO (.cells #[.bool true,.int .i64 every,.bool al,.bool fin] 84 (0,0))*(own 3 1 (.slice (some ⟨gA,0,none⟩) 0 0) 0 []*F))) by ac_rfl)) true al fin true every (by omega));have hel:=fI true al true acc;have hbl:=p7 (s:=true) hw hro htop2;have HB:=ac (fun(w':World) (h:St w0 w' (aA C*(aB Wb (aJ true al true acc) false*(blk bO (.cells #[.bool true,.int .i64 every,.bool al,.bool fin] 84 (0,0))*(own 3 1 (.slice (some ⟨gA,0,none⟩) 0 0) 0 []*F)))))=>(by have C:=sR h ((hrd.more _).more _) hro.1 hro.2.1 h1 (by omega) (by have:=hro.2.2;omega) (by have:=fI true al true acc;omega);rw[show bE false (bg 0 xl width)=dI width true xl top from rfl] at C;exact C));have hal3:(aJ true al true acc++dI width true xl top).length≤300000*(k+1):=by rw[ae];omega
    have HALL:=ac (⟨hall,hal3,hro⟩:_∧_∧_);have HRX:=ac (hrd.more (own 3 1 (.slice (some ⟨gA,0,none⟩) 0 0) 0 []));have c0:=hst.right.right.cell 0 rfl;have c1:=hst.right.right.cell 1 rfl;have c2:=hst.right.right.cell 2 rfl;have c3:=hst.right.right.cell 3 rfl;clear hall hal3 hbl hro hrd hst htop htop2 hstb hel;generalize aJ true al true acc++dI width true xl top=acc2 at*
    go_wp2_with fail;refine HEND.out.mono ?_;rintro e w5 ⟨rfl,h5⟩;have HW:=ac (HB.out _ (h5.perm (ak _ _ _)));clear h5 HEND HB c0 c1 c2 c3;go_wp2_with fail;refine HW.out.mono ?_;rintro e w6 ⟨rfl,h6⟩;have H6:=ac h6;clear h6 HW;go_wp2_with fail;exact⟨⟨k+1,acc2,xl,ax,cx,by omega,by go_num,rfl,HALL.out.2.1,HALL.out.1,HALL.out.2.2,HRX.out,H6.out⟩,by simp [intOf];omega⟩
   ·have hsg:iA true every k=false:=decide_eq_false hz;have hzb:((k:Int)%every==0)=false:=by simpa using hz
    rw[hsg] at hall;clear hsg;have HEND:=ac (lr (hst.perm (show _=aB Wb acc false*(aA C*(blk bO (.cells #[.bool true,.int .i64 every,.bool al,.bool fin] 84 (0,0))*(own 3 1 (.slice (some ⟨gA,0,none⟩) 0 0) 0 []*F))) by ac_rfl)) true al fin false every (by omega));have hel:=fI true al false acc;have hbl:=p7 (s:=false) hw hro htop2;have HB:=ac (fun(w':World) (h:St w0 w' (aA C*(aB Wb (aJ true al false acc) false*(blk bO (.cells #[.bool true,.int .i64 every,.bool al,.bool fin] 84 (0,0))*(own 3 1 (.slice (some ⟨gA,0,none⟩) 0 0) 0 []*F)))))=>(by have C:=xE h ((hrd.more _).more _) (hstb.more _) hro.1 hro.2.1 htop.1 htop.2.1 h1 (by omega) (by have:=hro.2.2;omega) (by have:=htop.2.2;omega) (by have:=fI true al false acc;omega);rw[show cL xl top width (width+1) (-1) false=dI width false xl top from rfl] at C;exact C));have hal3:(aJ true al false acc++dI width false xl top).length≤300000*(k+1):=by rw[ae];omega
    have HALL:=ac (⟨hall,hal3,hro⟩:_∧_∧_);have HRX:=ac (hrd.more (own 3 1 (.slice (some ⟨gA,0,none⟩) 0 0) 0 []));have c0:=hst.right.right.cell 0 rfl;have c1:=hst.right.right.cell 1 rfl;have c2:=hst.right.right.cell 2 rfl;have c3:=hst.right.right.cell 3 rfl;clear hall hal3 hbl hro hrd hst htop htop2 hstb hel;generalize aJ true al false acc++dI width false xl top=acc2 at*
    go_wp2_with fail;refine HEND.out.mono ?_;rintro e w5 ⟨rfl,h5⟩;have HW:=ac (HB.out _ (h5.perm (ak _ _ _)));clear h5 HEND HB c0 c1 c2 c3;go_wp2_with fail;refine HW.out.mono ?_;rintro e w6 ⟨rfl,h6⟩;have H6:=ac h6;clear h6 HW;go_wp2_with fail;exact⟨⟨k+1,acc2,xl,ax,cx,by omega,by go_num,rfl,HALL.out.2.1,HALL.out.1,HALL.out.2.2,HRX.out,H6.out⟩,by simp [intOf];omega⟩
  ·obtain rfl:k=R.length:=by omega
   rw[lM (by simp),dC] at hall;subst hall;have ha9:acc.length≤90000000:=by omega
   have c3:=hst.right.right.cell 3 rfl;have c0:=hst.right.right.cell 0 rfl;have c1:=hst.right.right.cell 1 rfl;have c2:=hst.right.right.cell 2 rfl;clear hstb htop htop2 hal;cases fin
   ·have HBY:=it (hst.perm (show _=aB Wb acc false*(aA C*(blk bO (.cells #[.bool true,.int .i64 every,.bool al,.bool false] 84 (0,0))*(own 3 1 (.slice (some ⟨gA,0,none⟩) 0 0) 0 []*F))) by ac_rfl));have hl1:(az false acc).length=(acc.length+7)/8:=dq _ _;rw[← hl1] at HBY;obtain⟨E,hE⟩:∃ E,E=az false acc:=⟨_,rfl⟩;rw[← hE] at HBY;have HEE:=ac hE;clear hE;have HBY:=ac HBY;clear hst hl1;go_wp2_with fail;refine HBY.out.mono ?_;rintro e w7 ⟨v7,rfl,h7⟩;obtain⟨a7,c7,rfl⟩:=h7.reads.sub;have H7:=ac (h7.perm (show _=aB Wb acc false*(aA C*(blk bO (.cells #[.bool true,.int .i64 every,.bool al,.bool false] 84 (0,0))*(own 3 1 (.slice (some ⟨gA,0,none⟩) 0 0) 0 []*(own 5 1 (.slice a7 E.length c7) E.length (E.map bv)*F)))) by ac_rfl)).right.right.right.right;clear h7 HBY;go_wp2_with fail;go_ret2;rw[show az false (jB true al false acc)=E from HEE.out.symm];exact⟨_,rfl,H7.out⟩
   ·have HEND:=ac (lr (hst.perm (show _=aB Wb acc false*(aA C*(blk bO (.cells #[.bool true,.int .i64 every,.bool al,.bool true] 84 (0,0))*(own 3 1 (.slice (some ⟨gA,0,none⟩) 0 0) 0 []*F))) by ac_rfl)) true al true true every (by omega));have hel:=fI true al true acc;clear hst;go_wp2_with fail;refine HEND.out.mono ?_;rintro e w5 ⟨rfl,h5⟩;have h5:=h5.perm (show _=blk bO (.cells #[.bool true,.int .i64 every,.bool al,.bool true] 84 (0,0))*(aB Wb (aJ true al true acc) false*(aA C*(own 3 1 (.slice (some ⟨gA,0,none⟩) 0 0) 0 []*F))) by ac_rfl);have f2:=h5.free 2;have d2:=h5.cell 2 rfl;have h6:=h5.set 2 (.bool false);have h6:St w0 _ (blk bO (.cells #[.bool true,.int .i64 every,.bool false,.bool true] 84 (0,0))*(aB Wb (aJ true al true acc) false*(aA C*(own 3 1 (.slice (some ⟨gA,0,none⟩) 0 0) 0 []*F)))):=h6;have H6:=ac h6;obtain⟨fin9,hf9⟩:∃ fin9,fin9=jB true al true acc:=⟨_,rfl⟩;have HF9:=ac hf9;have h59:i9 true 5 (aJ true al true acc)=fin9:=by rw[hf9];rfl
    have hl59:(aJ true al true acc).length≤90000100:=by omega
    generalize aJ true al true acc=acc1 at*
    have H59:=ac h59;clear h5 h6 HEND c0 c1 c2 c3 hel hf9 h59;go_wp2_with fail;generalize w5.setCell ⟨bO,2,none⟩ (.bool false)=w6 at*
    clear f2 d2
    go_loopw [73] (fun vq wr=>∃ (q:Nat) (a:List Nat),q≤5∧vq= .int .i64 q∧a.length≤90000100+20*q∧i9 true (5-q) a=fin9∧St w0 wr (blk bO (.cells #[.bool true,.int .i64 every,.bool false,.bool true] 84 (0,0))*(aB Wb a false*(aA C*(own 3 1 (.slice (some ⟨gA,0,none⟩) 0 0) 0 []*F))))) (fun vq _=>5-(intOf vq).toNat)
    case atStart=>exact⟨0,acc1,by omega,rfl,by omega,H59.out,H6.out⟩
    case round=>
     clear H6 H59;obtain⟨q,a,hq,rfl,hal,hall,hst⟩:=hrel
     by_cases hq5:q<5
     ·have hqi:(q:Int)<5:=by omega
      obtain⟨m,hm⟩:∃ m,5-q=m+1:=⟨4-q,by omega⟩;rw[hm,i9] at hall;have hel:=fI true false true a;have c0:=hst.cell 0 rfl;have c1:=hst.cell 1 rfl;have c2:=hst.cell 2 rfl;have c3:=hst.cell 3 rfl;have HEND:=ac (lr (hst.perm (ak _ _ _)) true false true true every (by omega));have HH:=ac (⟨by omega,by rw[show 5-(q+1)=m by omega];exact hall⟩:(aJ true false true a).length≤90000100+20*(q+1)∧i9 true (5-(q+1)) (aJ true false true a)=fin9);clear hst hall hm hel;generalize aJ true false true a=a2 at*
      go_wp2_with fail;refine HEND.out.mono ?_;rintro e w7 ⟨rfl,h7⟩;have H7:=ac (h7.perm (ak _ _ _));clear h7 HEND c0 c1 c2 c3;go_wp2_with fail;exact⟨⟨q+1,a2,by omega,by go_num,HH.out.1,HH.out.2,H7.out⟩,by simp [intOf];omega⟩
     ·obtain rfl:q=5:=by omega
      rw[b8,i9] at hall;have HA9:=ac hall;have HBY:=it (hst.perm (ak _ _ _));have hl1:(az false a).length=(a.length+7)/8:=dq _ _;rw[← hl1] at HBY;obtain⟨E,hE⟩:∃ E,E=az false a:=⟨_,rfl⟩;rw[← hE] at HBY;have HEE:=ac hE;clear hE;have HBY:=ac HBY;clear hst hl1 hall;go_wp2_with fail;refine HBY.out.mono ?_;rintro e w7 ⟨v7,rfl,h7⟩;obtain⟨a7,c7,rfl⟩:=h7.reads.sub;have H7:=ac (h7.perm (show _=aB Wb a false*(blk bO (.cells #[.bool true,.int .i64 every,.bool false,.bool true] 84 (0,0))*(aA C*(own 3 1 (.slice (some ⟨gA,0,none⟩) 0 0) 0 []*(own 5 1 (.slice a7 E.length c7) E.length (E.map bv)*F)))) by ac_rfl)).right.right.right.right;clear h7 HBY;go_wp2_with fail;go_ret2;rw[← HF9.out,← HA9.out,← HEE.out];exact⟨_,rfl,H7.out⟩
def Fs (w0:World) (F:SProp) (Rb:Nat) (bs:List UInt8) (r:Nat ⊕ Nat) (e:Ending) (w':World):Prop:=e= .returned (.int .i64 (gZ r:Nat))∧∃ q,(∀ q',r= .inl q'→q'=q)∧St w0 w' (aq Rb bs q false*F)
theorem Ft {w0 w:World} {F:SProp} {Rb:Nat} {bs:List UInt8} {p:Nat} (h:St w0 w (aq Rb bs p false*F)) (hp:p≤8*bs.length) (hl:bs.length≤100000000):
  Calls Tryz.prog 123 #[.pointer (some ⟨Rb,0,none⟩)] w (Fs w0 F Rb bs (lp (ag false bs) p)):=by
 have H:=ac h;clear h;have hbl:(ag false bs).length=8*bs.length:=bM _ _;obtain⟨res,hres⟩:∃ res,lp (ag false bs) p=res:=⟨_,rfl⟩;rw[hres];rw[lp,hbl] at hres;have HRES:=ac hres;clear hres hbl;go_enter Tryz.func123,Tryz.ntmps123;go_wp2_with fail
 go_loopg [3] (8*bs.length+1-p) (fun g vn wr=>∃ q n:Nat,vn= .int .i64 n∧n≤q∧q≤8*bs.length∧8*bs.length+1≤g+q∧jA (ag false bs) g q n=res∧St w0 wr (aq Rb bs q false*F))
 case atStart=>exact⟨p,0,rfl,by omega,hp,by omega,HRES.out,H.out⟩
 case round=>
  clear H HRES;obtain⟨q,n,rfl,hnq,hq,hg,hres,hst⟩:=hrel;obtain⟨g,rfl⟩:∃ g,gk=g+1:=⟨gk-1,by omega⟩;rw[jA] at hres
  by_cases hin:q<8*bs.length
  ·obtain⟨b1,b2,b3⟩:=xT hin;rw[b1] at hres;simp only at hres;have C:=iR hst (j:=1) 1 rfl (by decide) (by omega);rw[b3] at C;have HC:=ac C;clear C hst b1 b3;generalize cE bs false q=bt at*
   have hbt:bt=0∨bt=1:=by omega
   rcases hbt with rfl | rfl
   ·rw[if_pos rfl] at hres;have HRS:=ac hres;clear hres;go_wp2_with fail;refine HC.out.mono ?_;rintro e w2 ⟨rfl,h2⟩;have H2:=ac h2;clear h2 HC;go_wp2_with fail
    go_roundg g
    case measure=>omega
    case rel=>exact⟨q+1,n+1,by go_num,by omega,by omega,by omega,HRS.out,H2.out⟩
   ·rw[if_neg (by decide)] at hres
    by_cases hn:n<11
    ·rw[if_pos hn] at hres;subst hres;have hni:(n:Int)<11:=by omega
     go_wp2_with fail;refine HC.out.mono ?_;rintro e w2 ⟨rfl,h2⟩;have H2:=ac h2;clear h2 HC;go_wp2_with fail;go_ret;exact⟨rfl,q+1,(fun q' h=>by cases h),H2.out⟩
    ·rw[if_neg hn] at hres;subst hres;have hni:¬ (n:Int)<11:=by omega
     go_wp2_with fail;refine HC.out.mono ?_;rintro e w2 ⟨rfl,h2⟩;have H2:=ac h2;clear h2 HC;go_wp2_with fail;go_ret;exact⟨rfl,q+1,(fun q' h=>by cases h;rfl),H2.out⟩
  ·rw[xU (by omega)] at hres;simp only at hres;subst hres;have HC:=ac (jn hst (j:=1) 1 rfl (by decide) (by omega));clear hst;go_wp2_with fail;refine HC.out.mono ?_;rintro e w2 ⟨rfl,h2⟩;have H2:=ac h2;clear h2 HC;go_wp2_with fail;go_ret;exact⟨rfl,q,(fun q' h=>by cases h),H2.out⟩
theorem Fu {w0 w:World} {F:SProp} (h:St w0 w F) (htab:dA w0 F) {bs:List UInt8} {vb:Value} (hb:Stb w0 F (fun w=>Reads w 1 vb bs.length (bs.map bv))) (hl:bs.length≤100000000) {width N:Nat} (two:Bool) (h1:1≤width) (hw:width≤32768) (hN:N≤1000):
  Calls Tryz.prog 75 #[vb,.int .i64 (width:Int),.int .i64 (N:Int),.bool two] w fun e w'=>∃ (v:Value) (R:List (Value × List Nat)),
   e= .returned (.tuple #[v,.int .i64 (sX (i7 (ag false bs) width two N 0 [] []):Nat)])∧R.map Prod.snd=(sW (i7 (ag false bs) width two N 0 [] [])).map af∧St w0 w' (own 79 1 v R.length (R.map Prod.fst)*(aQ R*F)):=by
 have HB:=ac hb;have HT:=ac htab;have hbl:(ag false bs).length=8*bs.length:=bM _ _;have HBL:=ac hbl;obtain⟨res,hres⟩:∃ res,i7 (ag false bs) width two N 0 [] []=res:=⟨_,rfl⟩;rw[hres];have HRES:=ac hres;clear hres hbl htab;obtain⟨a0,c0,rfl⟩:=(hb w h).sub;have H:=ac h;clear h hb;have T:=pX;have hw1:¬ (width:Int)<1:=by omega
 have hw2:¬ (32768:Int)<width:=by omega
 have hw1d:decide ((width:Int)<1)=false:=decide_eq_false hw1;have hw2d:decide ((32768:Int)<width)=false:=decide_eq_false hw2;have hN0:¬ (N:Int)<0:=by omega
 have hN0d:decide ((N:Int)<0)=false:=decide_eq_false hN0;go_enter Tryz.func75,Tryz.ntmps75;go_wp2_with fail;refine(lV (low:=false) H.out HB.out (by omega)).mono ?_;rintro e w3 ⟨Rb,rfl,h3⟩;have H3:=ac h3;clear h3 H;go_wp2_with fail;refine(li H3.out (fun w h=>HT.out w h.right)).mono ?_;rintro e w4 ⟨C,rfl,h4⟩;have h5:=h4.lit #[] 79 0 rfl (by decide);have h6:=h5.lit #[] 3 0 rfl (by decide);obtain⟨gR,hgR⟩:∃ gR,gR=w4.heap.size:=⟨_,rfl⟩;obtain⟨gA,hgA⟩:∃ gA,gA=(w4.alloc (.cells #[] 79)).heap.size:=⟨_,rfl⟩;rw[← hgR,← hgA] at h6;have hgA2:gA=gR+1:=by rw[hgA,hgR];simp
 have h7:=h6.perm (show _=own 79 1 (.slice (some ⟨gR,0,none⟩) 0 0) 0 []*(aQ [bF gA]*(aA C*(aq Rb bs 0 false*F))) by
  rw[show aQ [bF gA]=own 3 1 (.slice (some ⟨gA,0,none⟩) 0 0) 0 []*bw from rfl,aW,cV];show own 3 1 (.slice (some ⟨gA,0,none⟩) 0 0) 0 []*(own 79 1 (.slice (some ⟨gR,0,none⟩) 0 0) 0 []*_)=_;ac_rfl)
 subst hgA2;have H7:=ac h7;clear h4 h5 h6 h7 H3 hgA;clear hw1d hw2d hN0d;go_wp2_with fail;rw[← hgR];clear hgR
 go_loopw [12,13,36] (fun vr va vi wr=>∃ (k p:Nat) (acc:List (List Nat)) (R:List (Value × List Nat)) (ao:Option Addr) (co:Nat) (xa:Value × List Nat) (aa:Option Addr) (ca:Nat),k≤N∧vi= .int .i64 k∧vr= .slice ao R.length co∧va= .slice aa xa.2.length ca∧xa.1= .slice aa xa.2.length ca∧xa∈bF (gR+1)::R∧(xa.2.Pairwise (· < ·)∧(∀ x∈xa.2,x<width)∧xa.2.length≤32768)∧p≤8*bs.length∧R.length=k∧R.map Prod.snd=acc.map af∧i7 (ag false bs) width two (N-k) p xa.2 acc=res∧
  St w0 wr (own 79 1 (.slice ao R.length co) R.length (R.map Prod.fst)*(aQ (bF (gR+1)::R)*(aA C*(aq Rb bs p false*F))))) (fun _ _ vi _=>N-(intOf vi).toNat)
 case atStart=>exact⟨0,0,[],[],some ⟨gR,0,none⟩,0,bF (gR+1),some ⟨gR+1,0,none⟩,0,by omega,rfl,rfl,rfl,rfl,by simp,⟨List.Pairwise.nil,(fun x hx=>by cases hx),by simp [bF]⟩,by omega,rfl,rfl,HRES.out,H7.out⟩
 case round=>
  clear H7 HRES;obtain⟨k,p,acc,R,ao,co,⟨xv,top⟩,aa,ca,hk,rfl,rfl,rfl,hxa,hmem,htop,hp,hRk,hRm,hall,hst⟩:=hrel;simp only at hxa htop hall;subst hxa
  by_cases hkn:k<N
  ·have hkl:(k:Int)<N:=by omega
   obtain⟨m,hm⟩:∃ m,N-k=m+1:=⟨N-k-1,by omega⟩;have hm2:N-(k+1)=m:=by omega
   rw[hm,i7] at hall;have hsk1:=Ft (hst.perm (show _=aq Rb bs p false*(aA C*(own 79 1 (.slice ao R.length co) R.length (R.map Prod.fst)*(aQ (bF (gR+1)::R)*F))) by ac_rfl)) hp hl;have hskb:=xS (t:=ag false bs) ((ag false bs).length+1-p) p 0;rw[← lp] at hskb;have hRl:R.length≤1000:=by omega
   have HRK:=ac hRk;have HRM:=ac hRm;have HM:=ac (⟨hm,hm2⟩:_∧_);have HMEM:=ac hmem;clear hst hRk hRm hm hm2 hmem;cases hsk:lp (ag false bs) p with
   | inr er=>
    rw[hsk] at hall hsk1 hskb;have her:=hskb.2 er rfl;have hx0:¬ (er:Int)=0:=by omega
    have HRS:=ac hall;have HSK:=ac hsk1;clear hall hsk1 hskb htop hsk;go_wp2_with fail;refine HSK.out.mono ?_;rintro e w5 ⟨rfl,q5,_,h5⟩;have H5:=ac (St.own_nil 79 1 (jz h5.right.right.right.right));clear h5 HSK;simp only[gZ];go_wp2_with fail;go_ret2;rw[← HRS.out];exact⟨_,[],rfl,rfl,H5.out⟩
   | inl p1=>
    rw[hsk] at hall hsk1 hskb;simp only at hall;have hp1:=(hskb.1 p1 rfl).2;rw[HBL.out] at hp1;have HSK:=ac hsk1;clear hsk1 hsk;cases two with
    | false=>
     have hfl:jV (ag false bs) false p1= .inl (p1,true):=rfl;rw[hfl] at hall;simp only at hall;have hp2:p1≤8*bs.length:=hp1;clear hfl;cases hr:iZ (ag false bs) width top true p1 with
     | mk q y=>
      have hbd:=td (t:=ag false bs) (width:=width) (s:=true) (p:=p1) htop.1 htop.2.1 h1 (by rw[HBL.out];exact hp2);rw[hr] at hall hbd;rw[HBL.out] at hbd;obtain⟨hq,hb1,hb2⟩:=hbd;simp only at hq;have HCR:=ac (fun(w':World) (h:St w0 w' (aq Rb bs p1 false*(aA C*(own 79 1 (.slice ao R.length co) R.length (R.map Prod.fst)*(aQ (bF (gR+1)::R)*F)))))=>by
       have C:=sT (h.perm (show _=aA C*(aq Rb bs p1 false*(own 79 1 (.slice ao R.length co) R.length (R.map Prod.fst)*(aQ (bF (gR+1)::R)*F))) by ac_rfl)) h1 hw (by omega) hp2;have e:iZ (ag false bs) width top true p1=fV (ag false bs) width p1:=rfl;rw[← e,hr] at C;exact C)
      cases y with
      | inr er=>
       simp only at hall;have her:=hb2 er rfl;have hx0:¬ (er:Int)=0:=by omega
       have HRS:=ac hall;clear hall hr hb1 hb2 hq htop hskb;go_wp2_with fail;refine HSK.out.mono ?_;rintro e w5 ⟨rfl,q5,hq5,h5⟩;obtain rfl:=hq5 _ rfl;have HC1:=ac (HCR.out _ h5);clear h5 HCR;simp only[gZ];go_wp2_with fail;refine HC1.out.mono ?_;rintro e w6 ⟨v6,rfl,h6⟩;obtain⟨a6,c6,rfl⟩:=h6.reads.sub;have H6:=ac (St.own_nil 79 1 (jz h6.right.right.right.right.right));clear h6 HC1;simp only[gr];go_wp2_with fail;go_ret2;rw[← HRS.out];exact⟨_,[],rfl,rfl,H6.out⟩
      | inl px=>
       simp only at hall;obtain⟨hpl,hpb⟩:=hb1 px rfl;have hcl:=mn px;have HRS:=ac (⟨hall,iz px,fun x hx=>by rw[← hpl];exact gK px x hx,by omega⟩:_∧(af px).Pairwise (· < ·)∧(∀ x∈af px,x<width)∧(af px).length≤32768);clear hall hr hb1 hb2 hpl hpb hcl htop hskb;go_wp2_with fail;refine HSK.out.mono ?_;rintro e w5 ⟨rfl,q5,hq5,h5⟩;obtain rfl:=hq5 _ rfl;have HC1:=ac (HCR.out _ h5);clear h5 HCR;simp only[gZ];go_wp2_with fail;refine HC1.out.mono ?_;rintro e w6 ⟨v6,rfl,h6⟩;obtain⟨a6,c6,rfl⟩:=h6.reads.sub;have h6:St w0 w6 (own 3 1 (.slice a6 (af px).length c6) (af px).length ((af px).map nv)*(aA C*(aq Rb bs q false*(own 79 1 (.slice ao R.length co) R.length (R.map Prod.fst)*(aQ (bF (gR+1)::R)*F))))):=h6;have h6:=h6.perm (show _=own 79 1 (.slice ao R.length co) R.length (R.map Prod.fst)*(own 3 1 (.slice a6 (af px).length c6) (af px).length ((af px).map nv)*(aQ (bF (gR+1)::R)*(aA C*(aq Rb bs q false*F)))) by ac_rfl);have H6:=ac h6;clear h6 HC1;simp only[gr,gL];obtain⟨l5,hl5⟩:∃ l5,l5=(af px).length:=⟨_,rfl⟩;rw[← hl5] at H6 ⊢;have HL5:=ac hl5;clear hl5;go_wp2_with (at_builtin;apply ap);refine on (aG T rfl _ _ rfl rfl (H6.out.drop_alloc (.cells #[.slice a6 l5 c6] 79)) rfl (nO w6 (.slice a6 l5 c6)) (by intro u hu;rw[List.mem_singleton.1 hu];rfl) (by unfold maxLen;omega) (by omega) ?_);intro v7 w7 h7 _;have h7:St w0 w7 (own 79 1 v7 (R++[(Value.slice a6 l5 c6,af px)]).length ((R++[(Value.slice a6 l5 c6,af px)]).map Prod.fst)*(aQ (bF (gR+1)::(R++[(Value.slice a6 l5 c6,af px)]))*(aA C*(aq Rb bs q false*F)))):=by
        rw[← dV,mr,ae,List.map_append,← HL5.out];exact h7.perm (by simp only[eI,cO,gC];ac_rfl)
       have hsn:(R++[(Value.slice a6 l5 c6,af px)]).length=R.length+1:=by simp
       have hsm:(R++[(Value.slice a6 l5 c6,af px)]).map Prod.snd=(acc++[px]).map af:=by rw[List.map_append,List.map_append,HRM.out];rfl
       have hmm:(Value.slice a6 l5 c6,af px)∈bF (gR+1)::(R++[(Value.slice a6 l5 c6,af px)]):=by simp
       generalize R++[(Value.slice a6 l5 c6,af px)]=R2 at*
       obtain⟨aN,cN,rfl⟩:=h7.reads.sub;have HH:=ac (⟨hsn,hsm,hmm⟩:_∧_∧_);have H7:=ac h7;clear h7 hsn hsm hmm H6;go_wp2_with fail;obtain⟨g1,g2,g3⟩:=HH.out;have:=HRK.out;exact⟨⟨k+1,q,acc++[px],R2,aN,cN,(.slice a6 l5 c6,af px),a6,c6,by omega,by go_num,rfl,by rw[← HL5.out],by rw[← HL5.out],g3,HRS.out.2,hq,by omega,g2,by rw[HM.out.2];exact HRS.out.1,H7.out⟩,by simp [intOf];omega⟩
    | true=>
     by_cases hin:p1<8*bs.length
     ·obtain⟨b1,b2,b3⟩:=xT hin;have hp2:p1+1≤8*bs.length:=by omega
      have hfl:jV (ag false bs) true p1= .inl (p1+1,decide (cE bs false p1=1)):=by rw[jV,if_pos rfl,b1]
      rw[hfl] at hall;simp only at hall;have HRD:=ac (fun(w':World) (h:St w0 w' (aq Rb bs p1 false*(aA C*(own 79 1 (.slice ao R.length co) R.length (R.map Prod.fst)*(aQ (bF (gR+1)::R)*F)))))=>by
       have C:=iR h (j:=1) 1 rfl (by decide) (by omega);rw[b3] at C;exact C)
      clear hfl b1 b3;generalize cE bs false p1=bt at*
      have hbt:bt=0∨bt=1:=by omega
      rcases hbt with rfl | rfl
      ·have hd:decide ((0:Nat)=1)=false:=rfl;rw[hd] at hall;clear hd;cases hr:iZ (ag false bs) width top false (p1+1) with
       | mk q y=>
        have hbd:=td (t:=ag false bs) (width:=width) (s:=false) (p:=(p1+1)) htop.1 htop.2.1 h1 (by rw[HBL.out];exact hp2);rw[hr] at hall hbd;rw[HBL.out] at hbd;obtain⟨hq,hb1,hb2⟩:=hbd;simp only at hq;have HCR:=ac (fun(w':World) (h:St w0 w' (aq Rb bs (p1+1) false*(aA C*(own 79 1 (.slice ao R.length co) R.length (R.map Prod.fst)*(aQ (bF (gR+1)::R)*F)))))=>by
         have C:=xF (top:=top) (vt:= .slice aa top.length ca) (h.perm (show _=aA C*(aq Rb bs (p1+1) false*(own 79 1 (.slice ao R.length co) R.length (R.map Prod.fst)*(aQ (bF (gR+1)::R)*F))) by ac_rfl)) (fun w' h=>nN (bF (gR+1)::R) _ h.right _ HMEM.out) htop.1 htop.2.1 h1 hw (by have:=htop.2.2;omega) (by omega) hp2;have e:iZ (ag false bs) width top false (p1+1)=gN (ag false bs) top width (p1+1):=rfl;rw[← e,hr] at C;exact C)
        cases y with
        | inr er=>
         simp only at hall;have her:=hb2 er rfl;have hx0:¬ (er:Int)=0:=by omega
         have HRS:=ac hall;clear hall hr hb1 hb2 hq htop hskb;go_wp2_with fail;refine HSK.out.mono ?_;rintro e w5 ⟨rfl,q5,hq5,h5⟩;obtain rfl:=hq5 _ rfl;have HR1:=ac (HRD.out _ h5);clear h5;simp only[gZ];go_wp2_with fail;refine HR1.out.mono ?_;rintro e w5b ⟨rfl,h5⟩;clear HR1;have HC1:=ac (HCR.out _ h5);clear h5 HCR;simp only[gZ];go_wp2_with fail;refine HC1.out.mono ?_;rintro e w6 ⟨v6,rfl,h6⟩;obtain⟨a6,c6,rfl⟩:=h6.reads.sub;have H6:=ac (St.own_nil 79 1 (jz h6.right.right.right.right.right));clear h6 HC1;simp only[gr];go_wp2_with fail;go_ret2;rw[← HRS.out];exact⟨_,[],rfl,rfl,H6.out⟩
        | inl px=>
         simp only at hall;obtain⟨hpl,hpb⟩:=hb1 px rfl;have hcl:=mn px;have HRS:=ac (⟨hall,iz px,fun x hx=>by rw[← hpl];exact gK px x hx,by omega⟩:_∧(af px).Pairwise (· < ·)∧(∀ x∈af px,x<width)∧(af px).length≤32768);clear hall hr hb1 hb2 hpl hpb hcl htop hskb;go_wp2_with fail;refine HSK.out.mono ?_;rintro e w5 ⟨rfl,q5,hq5,h5⟩;obtain rfl:=hq5 _ rfl;have HR1:=ac (HRD.out _ h5);clear h5;simp only[gZ];go_wp2_with fail;refine HR1.out.mono ?_;rintro e w5b ⟨rfl,h5⟩;clear HR1;have HC1:=ac (HCR.out _ h5);clear h5 HCR;simp only[gZ];go_wp2_with fail;refine HC1.out.mono ?_;rintro e w6 ⟨v6,rfl,h6⟩;obtain⟨a6,c6,rfl⟩:=h6.reads.sub;have h6:St w0 w6 (own 3 1 (.slice a6 (af px).length c6) (af px).length ((af px).map nv)*(aA C*(aq Rb bs q false*(own 79 1 (.slice ao R.length co) R.length (R.map Prod.fst)*(aQ (bF (gR+1)::R)*F))))):=h6;have h6:=h6.perm (show _=own 79 1 (.slice ao R.length co) R.length (R.map Prod.fst)*(own 3 1 (.slice a6 (af px).length c6) (af px).length ((af px).map nv)*(aQ (bF (gR+1)::R)*(aA C*(aq Rb bs q false*F)))) by ac_rfl);have H6:=ac h6;clear h6 HC1;simp only[gr,gL];obtain⟨l5,hl5⟩:∃ l5,l5=(af px).length:=⟨_,rfl⟩;rw[← hl5] at H6 ⊢;have HL5:=ac hl5;clear hl5;go_wp2_with (at_builtin;apply ap);refine on (aG T rfl _ _ rfl rfl (H6.out.drop_alloc (.cells #[.slice a6 l5 c6] 79)) rfl (nO w6 (.slice a6 l5 c6)) (by intro u hu;rw[List.mem_singleton.1 hu];rfl) (by unfold maxLen;omega) (by omega) ?_);intro v7 w7 h7 _;have h7:St w0 w7 (own 79 1 v7 (R++[(Value.slice a6 l5 c6,af px)]).length ((R++[(Value.slice a6 l5 c6,af px)]).map Prod.fst)*(aQ (bF (gR+1)::(R++[(Value.slice a6 l5 c6,af px)]))*(aA C*(aq Rb bs q false*F)))):=by
          rw[← dV,mr,ae,List.map_append,← HL5.out];exact h7.perm (by simp only[eI,cO,gC];ac_rfl)
         have hsn:(R++[(Value.slice a6 l5 c6,af px)]).length=R.length+1:=by simp
         have hsm:(R++[(Value.slice a6 l5 c6,af px)]).map Prod.snd=(acc++[px]).map af:=by rw[List.map_append,List.map_append,HRM.out];rfl
         have hmm:(Value.slice a6 l5 c6,af px)∈bF (gR+1)::(R++[(Value.slice a6 l5 c6,af px)]):=by simp
         generalize R++[(Value.slice a6 l5 c6,af px)]=R2 at*
         obtain⟨aN,cN,rfl⟩:=h7.reads.sub;have HH:=ac (⟨hsn,hsm,hmm⟩:_∧_∧_);have H7:=ac h7;clear h7 hsn hsm hmm H6;go_wp2_with fail;obtain⟨g1,g2,g3⟩:=HH.out;have:=HRK.out;exact⟨⟨k+1,q,acc++[px],R2,aN,cN,(.slice a6 l5 c6,af px),a6,c6,by omega,by go_num,rfl,by rw[← HL5.out],by rw[← HL5.out],g3,HRS.out.2,hq,by omega,g2,by rw[HM.out.2];exact HRS.out.1,H7.out⟩,by simp [intOf];omega⟩
      ·have hd:decide ((1:Nat)=1)=true:=rfl;rw[hd] at hall;clear hd;cases hr:iZ (ag false bs) width top true (p1+1) with
       | mk q y=>
        have hbd:=td (t:=ag false bs) (width:=width) (s:=true) (p:=(p1+1)) htop.1 htop.2.1 h1 (by rw[HBL.out];exact hp2);rw[hr] at hall hbd;rw[HBL.out] at hbd;obtain⟨hq,hb1,hb2⟩:=hbd;simp only at hq;have HCR:=ac (fun(w':World) (h:St w0 w' (aq Rb bs (p1+1) false*(aA C*(own 79 1 (.slice ao R.length co) R.length (R.map Prod.fst)*(aQ (bF (gR+1)::R)*F)))))=>by
         have C:=sT (h.perm (show _=aA C*(aq Rb bs (p1+1) false*(own 79 1 (.slice ao R.length co) R.length (R.map Prod.fst)*(aQ (bF (gR+1)::R)*F))) by ac_rfl)) h1 hw (by omega) hp2;have e:iZ (ag false bs) width top true (p1+1)=fV (ag false bs) width (p1+1):=rfl;rw[← e,hr] at C;exact C)
        cases y with
        | inr er=>
         simp only at hall;have her:=hb2 er rfl;have hx0:¬ (er:Int)=0:=by omega
         have HRS:=ac hall;clear hall hr hb1 hb2 hq htop hskb;go_wp2_with fail;refine HSK.out.mono ?_;rintro e w5 ⟨rfl,q5,hq5,h5⟩;obtain rfl:=hq5 _ rfl;have HR1:=ac (HRD.out _ h5);clear h5;simp only[gZ];go_wp2_with fail;refine HR1.out.mono ?_;rintro e w5b ⟨rfl,h5⟩;clear HR1;have HC1:=ac (HCR.out _ h5);clear h5 HCR;simp only[gZ];go_wp2_with fail;refine HC1.out.mono ?_;rintro e w6 ⟨v6,rfl,h6⟩;obtain⟨a6,c6,rfl⟩:=h6.reads.sub;have H6:=ac (St.own_nil 79 1 (jz h6.right.right.right.right.right));clear h6 HC1;simp only[gr];go_wp2_with fail;go_ret2;rw[← HRS.out];exact⟨_,[],rfl,rfl,H6.out⟩
        | inl px=>
         simp only at hall;obtain⟨hpl,hpb⟩:=hb1 px rfl;have hcl:=mn px;have HRS:=ac (⟨hall,iz px,fun x hx=>by rw[← hpl];exact gK px x hx,by omega⟩:_∧(af px).Pairwise (· < ·)∧(∀ x∈af px,x<width)∧(af px).length≤32768);clear hall hr hb1 hb2 hpl hpb hcl htop hskb;go_wp2_with fail;refine HSK.out.mono ?_;rintro e w5 ⟨rfl,q5,hq5,h5⟩;obtain rfl:=hq5 _ rfl;have HR1:=ac (HRD.out _ h5);clear h5;simp only[gZ];go_wp2_with fail;refine HR1.out.mono ?_;rintro e w5b ⟨rfl,h5⟩;clear HR1;have HC1:=ac (HCR.out _ h5);clear h5 HCR;simp only[gZ];go_wp2_with fail;refine HC1.out.mono ?_;rintro e w6 ⟨v6,rfl,h6⟩;obtain⟨a6,c6,rfl⟩:=h6.reads.sub;have h6:St w0 w6 (own 3 1 (.slice a6 (af px).length c6) (af px).length ((af px).map nv)*(aA C*(aq Rb bs q false*(own 79 1 (.slice ao R.length co) R.length (R.map Prod.fst)*(aQ (bF (gR+1)::R)*F))))):=h6;have h6:=h6.perm (show _=own 79 1 (.slice ao R.length co) R.length (R.map Prod.fst)*(own 3 1 (.slice a6 (af px).length c6) (af px).length ((af px).map nv)*(aQ (bF (gR+1)::R)*(aA C*(aq Rb bs q false*F)))) by ac_rfl);have H6:=ac h6;clear h6 HC1;simp only[gr,gL];obtain⟨l5,hl5⟩:∃ l5,l5=(af px).length:=⟨_,rfl⟩;rw[← hl5] at H6 ⊢;have HL5:=ac hl5;clear hl5;go_wp2_with (at_builtin;apply ap);refine on (aG T rfl _ _ rfl rfl (H6.out.drop_alloc (.cells #[.slice a6 l5 c6] 79)) rfl (nO w6 (.slice a6 l5 c6)) (by intro u hu;rw[List.mem_singleton.1 hu];rfl) (by unfold maxLen;omega) (by omega) ?_);intro v7 w7 h7 _;have h7:St w0 w7 (own 79 1 v7 (R++[(Value.slice a6 l5 c6,af px)]).length ((R++[(Value.slice a6 l5 c6,af px)]).map Prod.fst)*(aQ (bF (gR+1)::(R++[(Value.slice a6 l5 c6,af px)]))*(aA C*(aq Rb bs q false*F)))):=by
          rw[← dV,mr,ae,List.map_append,← HL5.out];exact h7.perm (by simp only[eI,cO,gC];ac_rfl)
         have hsn:(R++[(Value.slice a6 l5 c6,af px)]).length=R.length+1:=by simp
         have hsm:(R++[(Value.slice a6 l5 c6,af px)]).map Prod.snd=(acc++[px]).map af:=by rw[List.map_append,List.map_append,HRM.out];rfl
         have hmm:(Value.slice a6 l5 c6,af px)∈bF (gR+1)::(R++[(Value.slice a6 l5 c6,af px)]):=by simp
         generalize R++[(Value.slice a6 l5 c6,af px)]=R2 at*
         obtain⟨aN,cN,rfl⟩:=h7.reads.sub;have HH:=ac (⟨hsn,hsm,hmm⟩:_∧_∧_);have H7:=ac h7;clear h7 hsn hsm hmm H6;go_wp2_with fail;obtain⟨g1,g2,g3⟩:=HH.out;have:=HRK.out;exact⟨⟨k+1,q,acc++[px],R2,aN,cN,(.slice a6 l5 c6,af px),a6,c6,by omega,by go_num,rfl,by rw[← HL5.out],by rw[← HL5.out],g3,HRS.out.2,hq,by omega,g2,by rw[HM.out.2];exact HRS.out.1,H7.out⟩,by simp [intOf];omega⟩
     ·have hfl:jV (ag false bs) true p1= .inr 2:=by rw[jV,if_pos rfl,xU (by omega)]
      rw[hfl] at hall;have HRS:=ac hall;have HRD:=ac (fun(w':World) (h:St w0 w' (aq Rb bs p1 false*(aA C*(own 79 1 (.slice ao R.length co) R.length (R.map Prod.fst)*(aQ (bF (gR+1)::R)*F)))))=>jn h (j:=1) 1 rfl (by decide) (by omega));clear hall hfl htop hskb;go_wp2_with fail;refine HSK.out.mono ?_;rintro e w5 ⟨rfl,q5,hq5,h5⟩;obtain rfl:=hq5 _ rfl;have HR1:=ac (HRD.out _ h5);clear h5;simp only[gZ];go_wp2_with fail;refine HR1.out.mono ?_;rintro e w6 ⟨rfl,h6⟩;have H6:=ac (St.own_nil 79 1 (jz h6.right.right.right.right));clear h6 HR1;go_wp2_with fail;go_ret2;rw[← HRS.out];exact⟨_,[],rfl,rfl,H6.out⟩
  ·obtain rfl:k=N:=by omega
   rw[b8,i7] at hall;have HRS:=ac hall;have HRM:=ac hRm;have HST:=ac (hst.perm (show _=own 3 1 (.slice (some ⟨gR+1,0,none⟩) 0 0) 0 []*(aA C*(aq Rb bs p false*(own 79 1 (.slice ao R.length co) R.length (R.map Prod.fst)*(aQ R*F)))) by
    rw[show aQ (bF (gR+1)::R)=own 3 1 (.slice (some ⟨gR+1,0,none⟩) 0 0) 0 []*aQ R from rfl];ac_rfl)).right.right.right
   clear hst hall hRm hRk htop hmem;go_wp2_with fail;go_ret2;rw[← HRS.out];exact⟨_,R,rfl,HRM.out,HST⟩
end Go.Proofs.YtboflbdniogcdaaGreatDoor
