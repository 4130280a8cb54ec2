/-
  Parts of a proof.
-/
import Derived.Deep.RegionWith
import Derived.Test.YtboflbdniogcdaaGreatDoorK30
set_option linter.unusedVariables false
set_option linter.unusedSimpArgs false
set_option maxRecDepth 100000
set_option maxHeartbeats 100000000
namespace Go.Proofs.YtboflbdniogcdaaGreatDoor
open Go.RowKit Go.Mz
theorem oS {P:List Nat} {width:Nat} (h:P.length=width) (hw:width≤400):gF width (ay P):=
 ⟨mR P,fun x hx=>by rw[← h];exact mO P x hx,by have:=oP P;omega⟩
theorem we:∀ (L:List Nat) (b:Bool),Bit (cE b L):=by
 intro L
 induction L with
 | nil=>intro b;exact jg
 | cons n r ih=>intro b;rw[cE];exact(rF b n).append (ih _)
theorem D6 {l:List Nat} (h:Bit l):Bit (dn l):=by
 rw[dn];exact h.append (iZ _)
theorem D7 {w0 w:World} {F:SProp} (h:St w0 w F) {Ps:List (List Nat)} {v:Value} (hv:Stb w0 F (fun w=>Reads w 1 v Ps.length (Ps.map aD))) {width:Nat} (hw:width≤400) (hP:∀ P∈Ps,P.length=width∧Bit P) (hN:Ps.length≤1000):
  Calls Tryz.prog 26 #[v] w fun e w'=>e= .returned (.string ⟨(aq false (bj width (Ps.map ay) [])).toArray⟩)∧St w0 w' F:=by
 obtain⟨a0,c0,rfl⟩:=(hv w h).sub;have HV:=ac hv;have HP:=ac hP;obtain⟨res,hres⟩:∃ res,bj width (Ps.map ay) []=res:=⟨_,rfl⟩;rw[hres];have HRES:=ac hres;clear hres hv hP;have H:=ac h;clear h;go_enter Tryz.func26,Tryz.ntmps26;go_wp2_with fail
 go_loopw [3,4] (fun vs vi wr=>∃ (k:Nat) (acc:List Nat),k≤Ps.length∧vi= .int .i64 k∧vs= .string ⟨(tx acc).toArray⟩∧acc.length≤130000*k∧Bit acc∧bj width ((Ps.map ay).drop k) acc=res∧St w0 wr F) (fun _ vi _=>Ps.length-(intOf vi).toNat)
 case atStart=>exact⟨0,[],by omega,rfl,rfl,by simp,jg,HRES.out,H.out⟩
 case round=>
  clear H HRES;obtain⟨k,acc,hk,rfl,rfl,hal,hba,hall,hst⟩:=hrel;have hla:(tx acc).length=acc.length:=by simp
  by_cases hkn:k<Ps.length
  ·have hkl:(k:Int)<Ps.length:=by omega
   obtain⟨g,o,rfl,e1⟩:=(HV.out wr hst).at_ hkn;have hx:=ai hkn;rw[au,hx] at e1;simp only[cB,aD] at e1;obtain⟨hPl,hPb⟩:=HP.out _ (bo hkn);have hd:(Ps.map ay).drop k=ay Ps[k]::(Ps.map ay).drop (k+1):=by
    rw[cC (by simpa using hkn),gs]
   rw[hd,bj] at hall;clear hx hd;generalize Ps[k]=P at*
   have C1:=rN hst hPb (by omega) (sb:=⟨(tx P).toArray⟩) rfl;rw[rH hPb,hPl] at C1;have hbl:=oR (oS hPl hw) (by omega);have hbb:=we (bY 0 (ay P) width) false;generalize cE false (bY 0 (ay P) width)=X at*
   have hlx:(tx X).length=X.length:=by simp
   have hl2:(acc++X).length=acc.length+X.length:=ae;have hal2:=rM (acc++X);have hal5:(dn (acc++X)).length≤130000*(k+1):=by omega
   have HA:=ac (fun w=>An (l:=acc++X) (w:=w) (by omega) (s:=⟨(tx acc).toArray⟩++⟨(tx X).toArray⟩) (by rw[cZ];exact ByteArray.mk_append_mk _ _));have HH:=ac (⟨hal5,D6 (hba.append hbb),hall⟩:_∧_∧_);have HC1:=ac C1;clear C1 hall hba hbb hal5 hal2 hst hPl hPb;go_wp2_with fail;refine HC1.out.mono ?_;rintro e w2 ⟨rfl,h2⟩;have H2:=ac h2;clear h2 HC1;go_wp2_with fail;refine(HA.out _).mono ?_;rintro e w3 ⟨rfl,rfl⟩;go_wp2_with fail;exact⟨⟨k+1,dn (acc++X),by omega,by go_num,rfl,HH.out.1,HH.out.2.1,HH.out.2.2,H2.out⟩,by simp [intOf];omega⟩
  ·obtain rfl:k=Ps.length:=by omega
   rw[iD (by simp),bj] at hall;have HRS:=ac hall;have HBY:=ac (jW hba false hst (by omega) (s:=⟨(tx acc).toArray⟩) rfl);clear hst hall hba;go_wp2_with fail;refine HBY.out.mono ?_;rintro e w5 ⟨rfl,h5⟩;have H5:=ac h5;clear h5 HBY;go_wp2_with fail;go_ret;rw[← HRS.out];exact⟨rfl,H5.out⟩
def gG (width:Nat):List Nat→List (List Nat)→List Nat
 | _,[]=>[]
 | top,l::r=>db l top width (width+1) (-1) false++gG width l r
theorem rP {l:List Nat} (hb:Bit l):aF false (aq false l)=dn l:=by
 have hle:(aF false (aq false l)).length=(dn l).length:=by
  rw[eg,dm,dn,ae,dK];omega
 refine jU hle (fun i h1 h2=> ?_);have:=nP false hb i;rw[List.getD_eq_getElem?_getD,ai h1] at this;simp only[iB] at this;rw[this];have e:(dn l).getD i 0=(dn l)[i]:=by rw[List.getD_eq_getElem?_getD,ai h2];rfl
 rw[← e,dn,List.getD_eq_getElem?_getD,List.getD_eq_getElem?_getD,List.getElem?_append]
 split
 ·rfl
 ·rename_i hi;rw[bg (by omega)];cases hx:(List.replicate ((8-l.length%8)%8) 0)[i-l.length]? with
  | none=>rfl
  | some v=>
   have:=aG hx;rw[JO this];rfl
theorem D8 (n:Nat):ay (fP n false)=[]:=DI 0 n 0
def jh:List Nat:=bN++bN
theorem D9:jh.length=24:=by decide +kernel
theorem Ea:Bit jh:=show ∀ b∈jh,b≤1 by decide +kernel
theorem Eb:Bit bN:=show ∀ b∈bN,b≤1 by decide +kernel
theorem oz:∀ {a b:List Nat},Bit a→Bit b→tx a=tx b→a=b:=by
 intro a
 induction a with
 | nil=>intro b _ _ h;cases b with
  | nil=>rfl
  | cons y b=>simp at h
 | cons x a ih=>
  intro b ha hb h;cases b with
  | nil=>simp at h
  | cons y b=>
   simp only[ku,qc] at h;have hx:=ha x (by simp);have hy:=hb y (by simp);rw[oy hx hy h.1,ih (fun c hc=>ha c (by simp [hc])) (fun c hc=>hb c (by simp [hc])) h.2]
theorem lD {Q:List Nat} {width:Nat} (h:Q.length=width):(ay Q).Pairwise (· < ·)∧∀ x∈ay Q,x<width:=⟨mR Q,fun x hx=>by rw[← h];exact mO Q x hx⟩
theorem mod_one {i:Nat} (h:i<9):(aL.getD i []).length≤7∧1∈aL.getD i []:=by
 have:∀ i∈List.range 9,(aL.getD i []).length≤7∧1∈aL.getD i []:=by decide +kernel
 exact this i (gJ.2 h)
def iM (width:Nat) (L:List (List Nat)):List Nat:=gG width [] L++jh
theorem wg {row top:List Nat} {width:Nat}:∀ (f:Nat) (at':Int) (b:Bool),Bit (db row top width f at' b):=by
 have hm:∀ i,Bit (aL.getD i []):=fun i=>by
  rw[List.getD_eq_getElem?_getD];cases hx:aL[i]? with
  | none=>exact jg
  | some v=>exact rv v (aG hx)
 intro f
 induction f with
 | zero=>intro at' b;exact jg
 | succ f ih=>
  intro at' b;rw[db]
  split
  ·simp only
   split
   ·exact(hm 8).append (ih _ _)
   ·split
    ·exact(hm _).append (ih _ _)
    ·exact(hm 7).append ((rF _ _).append ((rF _ _).append (ih _ _)))
  ·exact jg
theorem wh {width:Nat} (hw:width≤400):∀ (L:List (List Nat)) (top:List Nat),(∀ l∈L,gF width l)→(top.Pairwise (· < ·)∧∀ x∈top,x<width)→(gG width top L).length≤300000*L.length:=by
 intro L
 induction L with
 | nil=>intro top _ _;simp [gG]
 | cons l r ih=>
  intro top h ht;have hl:=h l (by simp);have h1:=oQ hl.1 hl.2.1 ht.1 ht.2 (by omega) (width+1) (-1) false;have h2:=ih l (fun x hx=>h x (by simp [hx])) ⟨hl.1,hl.2.1⟩;rw[gG,ae,aK];omega
theorem oT:eI [48,48,48,48,48,48,48,48,48,48,48,49]=bN:=by decide +kernel
theorem Ec {w0 w:World} {F:SProp} (h:St w0 w F) (htab:eu w0 F) {R:List (Value × List Nat)} {v:Value} (hv:Stb w0 F (fun w=>Reads w 1 v R.length (R.map Prod.fst))) (hr:Stb w0 F (fun w=>∀ x∈R,Reads w 1 x.1 x.2.length (x.2.map nv))) {width:Nat} (h1:1≤width) (hw:width≤400) (hR:∀ x∈R,gF width x.2) (hN:R.length≤300):
  Calls Tryz.prog 46 #[v,.int .i64 (width:Int)] w fun e w'=>∃ v',e= .returned (.tuple #[v',.int .i64 0])∧St w0 w' (own 5 1 v' (aq false (iM width (R.map Prod.snd))).length ((aq false (iM width (R.map Prod.snd))).map bv)*F):=by
 obtain⟨a0,c0,rfl⟩:=(hv w h).sub;have HV:=ac hv;have HRR:=ac hr;have HRO:=ac hR;have HT:=ac htab;have hw1:¬ (width:Int)<1:=by omega
 have hw2:¬ (32768:Int)<width:=by omega
 obtain⟨res,hres⟩:∃ res,gG width [] (R.map Prod.snd)=res:=⟨_,rfl⟩;rw[iM,hres];have HRES:=ac hres;clear hres htab hv hr hR;have H:=ac h;clear h;go_enter Tryz.func46,Tryz.ntmps46;go_wp2_with fail;refine(kC (low:=false) H.out).mono ?_;rintro e w3 ⟨Wb,rfl,h3⟩;have H3:=ac h3;clear h3 H;go_wp2_with fail;refine(oM H3.out (fun w h=>HT.out w h.right)).mono ?_;rintro e w4 ⟨C,rfl,h4⟩;have h5:=(h4.lit #[] 3 0 rfl (by decide)).perm (show _=bc C*(az Wb [] false*(own 3 1 (.slice (some ⟨w4.heap.size,0,none⟩) 0 0) 0 []*F)) by simp only;ac_rfl);have H5:=ac h5;clear h4 h5 H3;go_wp2_with fail;generalize w4.heap.size=gA at*
 go_loopw [8,23] (fun va vi wr=>∃ (k:Nat) (acc top:List Nat) (aa:Option Addr) (ca:Nat),k≤R.length∧vi= .int .i64 k∧va= .slice aa top.length ca∧acc.length≤300000*k∧acc++gG width top ((R.map Prod.snd).drop k)=res∧(top.Pairwise (· < ·)∧(∀ x∈top,x<width)∧top.length≤400)∧
   Stb w0 (own 3 1 (.slice (some ⟨gA,0,none⟩) 0 0) 0 []*F) (fun w=>Reads w 1 (.slice aa top.length ca) top.length (top.map nv))∧St w0 wr (bc C*(az Wb acc false*(own 3 1 (.slice (some ⟨gA,0,none⟩) 0 0) 0 []*F)))) (fun _ vi _=>R.length-(intOf vi).toNat)
 case atStart=>exact⟨0,[],[],some ⟨gA,0,none⟩,0,by omega,rfl,rfl,by simp,HRES.out,⟨List.Pairwise.nil,(fun x hx=>by cases hx),by simp⟩,Stb.of_own,H5.out⟩
 case round=>
  clear H5 HRES;obtain⟨k,acc,top,aa,ca,hk,rfl,rfl,hal,hall,htop,hstb,hst⟩:=hrel
  by_cases hkn:k<R.length
  ·have hkl:(k:Int)<R.length:=by omega
   obtain⟨g,o,rfl,e1⟩:=(HV.out wr hst.right.right.right).at_ hkn;have hx:=ai hkn;rw[au,hx] at e1;simp only[cB] at e1;have hmem:=bo hkn;have hd:(R.map Prod.snd).drop k=R[k].2::(R.map Prod.snd).drop (k+1):=by
    rw[cC (by simpa using hkn),gs]
   rw[hd,gG,← List.append_assoc] at hall;have hro:=HRO.out _ hmem;have hrd:Stb w0 F (fun w=>Reads w 1 R[k].1 R[k].2.length (R[k].2.map nv)):=fun w h=>HRR.out w h _ hmem
   clear hx hd hmem;obtain⟨⟨xv,xl⟩,hxx⟩:∃ x,R[k]=x:=⟨_,rfl⟩;rw[hxx] at e1 hall hro hrd;simp only at e1 hall hro hrd;clear hxx;obtain⟨ax,cx,rfl⟩:=(hrd wr hst.right.right.right).sub;have hbl:=oQ hro.1 hro.2.1 htop.1 htop.2.1 (by omega) (width+1) (-1) false;have HW:=ac (wb hst (hrd.more _) hstb hro.1 hro.2.1 htop.1 htop.2.1 h1 (by omega) (by have:=hro.2.2;omega) (by have:=htop.2.2;omega) (by omega));have hal3:(acc++db xl top width (width+1) (-1) false).length≤300000*(k+1):=by rw[ae];omega
   have HALL:=ac (⟨hall,hal3,hro⟩:_∧_∧_);have HRX:=ac (hrd.more (own 3 1 (.slice (some ⟨gA,0,none⟩) 0 0) 0 []));clear hall hal3 hbl hro hrd hst htop hstb;generalize acc++db xl top width (width+1) (-1) false=acc2 at*
   go_wp2_with fail;refine HW.out.mono ?_;rintro e w5 ⟨rfl,h5⟩;have H5:=ac h5;clear h5 HW;go_wp2_with fail;exact⟨⟨k+1,acc2,xl,ax,cx,by omega,by go_num,rfl,HALL.out.2.1,HALL.out.1,HALL.out.2.2,HRX.out,H5.out⟩,by simp [intOf];omega⟩
  ·obtain rfl:k=R.length:=by omega
   rw[iD (by simp),gG,bE] at hall;have HRS:=ac hall;have hl2:acc.length≤90000000:=by omega
   have HW1:=ac (mx (hst.perm (af _ _ _)) [48,48,48,48,48,48,48,48,48,48,48,49] (by decide) (by decide) (by simp only[List.length];omega));rw[oT] at HW1;clear hst hall htop hstb hal;go_wp2_with fail;refine HW1.out.mono ?_;rintro e w5 ⟨rfl,h5⟩;have HW2:=ac (mx h5 [48,48,48,48,48,48,48,48,48,48,48,49] (by decide) (by decide) (by rw[ae,show bN.length=12 by decide];simp only[List.length];omega));rw[oT,List.append_assoc] at HW2;clear h5 HW1;go_wp2_with fail;refine HW2.out.mono ?_;rintro e w6 ⟨rfl,h6⟩;have h6:St w0 w6 (az Wb (acc++jh) false*(bc C*(own 3 1 (.slice (some ⟨gA,0,none⟩) 0 0) 0 []*F))):=h6;have HBY:=hU h6;rw[HRS.out] at HBY;obtain⟨fin,hfin⟩:∃ fin,fin=res++jh:=⟨_,rfl⟩;rw[← hfin] at HBY;have hl1:(aq false fin).length=(fin.length+7)/8:=dm _ _;rw[← hl1] at HBY;obtain⟨E,hE⟩:∃ E,E=aq false fin:=⟨_,rfl⟩;rw[← hE] at HBY;rw[hfin] at hE;have HEE:=ac hE;clear hE hfin;have HBY:=ac HBY;clear h6 HW2 hl1;go_wp2_with fail;refine HBY.out.mono ?_;rintro e w7 ⟨v7,rfl,h7⟩;obtain⟨a7,c7,rfl⟩:=h7.reads.sub;have H7:=ac (h7.perm (show _=az Wb fin false*(bc C*(own 3 1 (.slice (some ⟨gA,0,none⟩) 0 0) 0 []*(own 5 1 (.slice a7 E.length c7) E.length (E.map bv)*F))) by ac_rfl)).right.right.right;clear h7 HBY;go_wp2_with fail;go_ret2;rw[← HEE.out];exact⟨_,rfl,H7.out⟩
def dN (n:Nat):Nat:=(12-n%8)%8
def ak (two al s:Bool) (acc:List Nat):List Nat:=acc++(cond al (List.replicate (dN acc.length) 0) []++(bN++cond two [cond s 1 0] []))
def fQ (two:Bool) (every:Int) (i:Nat):Bool:= !two||decide ((i:Int)%every=0)
def bZ (width:Nat) (s:Bool) (l top:List Nat):List Nat:=cond s (cE false (bY 0 l width)) (db l top width (width+1) (-1) false)
def dF (width:Nat) (two al:Bool) (every:Int):Nat→List Nat→List (List Nat)→List Nat→List Nat
 | _,_,[],acc=>acc
 | i,top,l::r,acc=>dF width two al every (i+1) l r (ak two al (fQ two every i) acc++bZ width (fQ two every i) l top)
def jH (two al fin:Bool) (acc:List Nat):List Nat:=cond fin (ak two false true (ak two false true (ak two false true (ak two false true (ak two false true (ak two al true acc)))))) acc
def fD (width:Nat) (two al fin:Bool) (every:Int) (L:List (List Nat)):List Nat:=jH two al fin (dF width two al every 0 [] L [])
theorem dO (two al s:Bool) (acc:List Nat):(ak two al s acc).length≤acc.length+20:=by
 have h1:bN.length=12:=by decide
 rw[ak,ae,ae,ae,h1];have h2:(cond al (List.replicate (dN acc.length) 0) []).length≤7:=by cases al <;> simp [dN];omega
 have h3:(cond two [cond s 1 0] []).length≤1:=by cases two <;> simp
 omega
theorem kL {two al s:Bool} {acc:List Nat} (h:Bit acc):Bit (ak two al s acc):=by
 refine h.append (Bit.append ?_ (Eb.append ?_))
 ·cases al
  ·exact jg
  ·exact iZ _
 ·cases two
  ·exact jg
  ·cases s <;> (intro b hb;simp at hb;omega)
theorem rQ (width:Nat) (s:Bool) (l top:List Nat):Bit (bZ width s l top):=by
 cases s
 ·exact wg _ _ _
 ·exact we _ _
theorem kM {width:Nat} (hw:width≤400) {s:Bool} {l top:List Nat} (hl:gF width l) (ht:top.Pairwise (· < ·)∧∀ x∈top,x<width):(bZ width s l top).length≤290000:=by
 cases s
 ·have:=oQ hl.1 hl.2.1 ht.1 ht.2 (by omega) (width+1) (-1) false;show(db l top width (width+1) (-1) false).length≤_;omega
 ·have:=oR hl (by omega);show(cE false (bY 0 l width)).length≤_;omega
theorem wi {width:Nat} (hw:width≤400) {two al:Bool} {every:Int}:∀ (L:List (List Nat)) (i:Nat) (top acc:List Nat),(∀ l∈L,gF width l)→(top.Pairwise (· < ·)∧∀ x∈top,x<width)→(dF width two al every i top L acc).length≤acc.length+300000*L.length:=by
 intro L
 induction L with
 | nil=>intro i top acc _ _;simp [dF]
 | cons l r ih=>
  intro i top acc h ht;have hl:=h l (by simp);have h1:=kM hw (s:=fQ two every i) hl ht;have h2:=dO two al (fQ two every i) acc;have h3:=ih (i+1) l (ak two al (fQ two every i) acc++bZ width (fQ two every i) l top) (fun x hx=>h x (by simp [hx])) ⟨hl.1,hl.2.1⟩;rw[ae] at h3;rw[dF,aK];omega
def wk (two:Bool) (every:Int) (al fin:Bool):Array Value:=#[.bool two,.int .i64 every,.bool al,.bool fin]
theorem kN {w0 w:World} {F:SProp} {Wb:Nat} {acc:List Nat} (h:St w0 w (az Wb acc false*F)) (two al fin s:Bool) (every:Int) (hal:acc.length≤90000000000000):
  Calls Tryz.prog 97 #[.pointer (some ⟨Wb,0,none⟩),.agg (wk two every al fin),.bool s] w fun e w'=>e= .returned (.tuple #[])∧St w0 w' (az Wb (ak two al s acc) false*F):=by
 have h2:St w0 (w.alloc (.cells #[.bool two,.int .i64 every,.bool al,.bool fin] 84)) (blk w.heap.size (.cells #[.bool two,.int .i64 every,.bool al,.bool fin] 84 (0,0))*(az Wb acc false*F)):=h.alloc _;clear h;unfold wk;have hst:=h2;clear h2;cases al
 ·have HA:=ac (rfl:acc=acc);have c2:=hst.cell 2 rfl;go_enter Tryz.func97,Tryz.ntmps97;go_wp2_with fail
  go_loopg [13] 0 (fun g vn wr=>St w0 wr (blk w.heap.size (.cells #[.bool two,.int .i64 every,.bool false,.bool fin] 84 (0,0))*(az Wb acc false*F)))
  case atStart=>exact hst
  case round=>
   clear hst c2;have hst:=hrel;clear hrel;have c2:=hst.cell 2 rfl;have HW:=ac (mx (hst.perm (af _ _ _)) [48,48,48,48,48,48,48,48,48,48,48,49] (by decide) (by decide) (by simp only[List.length];omega));rw[oT] at HW;clear hst;go_wp2_with fail;refine HW.out.mono ?_;rintro e w5 ⟨rfl,h5⟩;clear HW;have h5:=h5.perm (af _ _ _);have y0:=h5.cell 0 rfl;have hal6:(acc++bN).length≤99999999999950:=by rw[ae,show bN.length=12 by decide];omega
   cases two
   ·have HE:=ac (show acc++bN=ak false false s acc by rw[ak];simp only[cond,bE,List.append_assoc,ba] <;> first | rfl | (rw[HA.out];simp only[List.append_assoc]));have H5:=ac h5.right;clear h5 hal6;go_wp2_with fail
    go_end0
    exact⟨rfl,by rw[← HE.out];exact H5.out⟩
   ·cases s
    ·have HW2:=ac (dE (h5.perm (af _ _ _)) 0 1 (by decide) (fun _=>by decide) (by decide) (by omega));have HE:=ac (show(acc++bN)++bi false 0 1=ak true false false acc by rw[ak,show bi false 0 1=[0] by decide];simp only[cond,List.append_assoc,ba] <;> first | rfl | (rw[HA.out];simp only[List.append_assoc]));clear h5 hal6;go_wp2_with fail;refine HW2.out.mono ?_;rintro e w6 ⟨rfl,h6⟩;have H6:=ac (h6.perm (af _ _ _)).right;clear h6 HW2;go_wp2_with fail
     go_end0
     exact⟨rfl,by rw[← HE.out];exact H6.out⟩
    ·have HW2:=ac (dE (h5.perm (af _ _ _)) 1 1 (by decide) (fun _=>by decide) (by decide) (by omega));have HE:=ac (show(acc++bN)++bi false 1 1=ak true false true acc by rw[ak,show bi false 1 1=[1] by decide];simp only[cond,List.append_assoc,ba] <;> first | rfl | (rw[HA.out];simp only[List.append_assoc]));clear h5 hal6;go_wp2_with fail;refine HW2.out.mono ?_;rintro e w6 ⟨rfl,h6⟩;have H6:=ac (h6.perm (af _ _ _)).right;clear h6 HW2;go_wp2_with fail
     go_end0
     exact⟨rfl,by rw[← HE.out];exact H6.out⟩
 ·have hz:dN acc.length≤7:=by rw[dN];omega
  go_enter Tryz.func97,Tryz.ntmps97;go_wp2_with fail
  go_loopg [13] (dN acc.length) (fun g vn wr=>∃ j:Nat,j+g=dN acc.length∧St w0 wr (blk w.heap.size (.cells #[.bool two,.int .i64 every,.bool true,.bool fin] 84 (0,0))*(az Wb (acc++List.replicate j 0) false*F)))
  case atStart=>exact⟨0,by omega,by simpa using hst⟩
  case round=>
   clear hst;obtain⟨j,hj,hst⟩:=hrel;have c2:=hst.cell 2 rfl;have hla:(acc++List.replicate j 0).length=acc.length+j:=by simp
   have HLN:=ac (AA (hst.perm (af _ _ _)))
   by_cases hg:gk=0
   ·subst hg;obtain rfl:j=dN acc.length:=by omega
    have h8:((((acc++List.replicate (dN acc.length) 0).length:Nat):Int)%8 != 4)=false:=by
     have:(((acc++List.replicate (dN acc.length) 0).length:Nat):Int)%8=4:=by rw[hla,dN];omega
     rw[this];rfl
    obtain⟨A1,hA1⟩:∃ A1,A1=acc++List.replicate (dN acc.length) 0:=⟨_,rfl⟩;rw[← hA1] at hst HLN h8 hla;have HA:=ac hA1;clear hA1 hj;go_wp2_with fail;refine HLN.out.mono ?_;rintro e w4 ⟨rfl,rfl⟩;clear HLN;have HW:=ac (mx (hst.perm (af _ _ _)) [48,48,48,48,48,48,48,48,48,48,48,49] (by decide) (by decide) (by simp only[List.length];omega));rw[oT] at HW;clear hst;go_wp2_with fail;refine HW.out.mono ?_;rintro e w5 ⟨rfl,h5⟩;clear HW;have h5:=h5.perm (af _ _ _);have y0:=h5.cell 0 rfl;have hal6:(A1++bN).length≤99999999999950:=by rw[ae,show bN.length=12 by decide];omega
    cases two
    ·have HE:=ac (show A1++bN=ak false true s acc by rw[ak];simp only[cond,bE,List.append_assoc,ba] <;> first | rfl | (rw[HA.out];simp only[List.append_assoc]));have H5:=ac h5.right;clear h5 hal6;go_wp2_with fail
     go_end0
     exact⟨rfl,by rw[← HE.out];exact H5.out⟩
    ·cases s
     ·have HW2:=ac (dE (h5.perm (af _ _ _)) 0 1 (by decide) (fun _=>by decide) (by decide) (by omega));have HE:=ac (show(A1++bN)++bi false 0 1=ak true true false acc by rw[ak,show bi false 0 1=[0] by decide];simp only[cond,List.append_assoc,ba] <;> first | rfl | (rw[HA.out];simp only[List.append_assoc]));clear h5 hal6;go_wp2_with fail;refine HW2.out.mono ?_;rintro e w6 ⟨rfl,h6⟩;have H6:=ac (h6.perm (af _ _ _)).right;clear h6 HW2;go_wp2_with fail
      go_end0
      exact⟨rfl,by rw[← HE.out];exact H6.out⟩
     ·have HW2:=ac (dE (h5.perm (af _ _ _)) 1 1 (by decide) (fun _=>by decide) (by decide) (by omega));have HE:=ac (show(A1++bN)++bi false 1 1=ak true true true acc by rw[ak,show bi false 1 1=[1] by decide];simp only[cond,List.append_assoc,ba] <;> first | rfl | (rw[HA.out];simp only[List.append_assoc]));clear h5 hal6;go_wp2_with fail;refine HW2.out.mono ?_;rintro e w6 ⟨rfl,h6⟩;have H6:=ac (h6.perm (af _ _ _)).right;clear h6 HW2;go_wp2_with fail
      go_end0
      exact⟨rfl,by rw[← HE.out];exact H6.out⟩
   ·have h8:((((acc++List.replicate j 0).length:Nat):Int)%8 != 4)=true:=by
     rw[bne_iff_ne,hla];rw[dN] at hj;omega
    have HW:=ac (dE (hst.perm (af _ _ _)) 0 1 (by decide) (fun _=>by decide) (by decide) (by omega));rw[show bi false 0 1=[0] by decide,List.append_assoc,← ft] at HW;clear hst;go_wp2_with fail;refine HLN.out.mono ?_;rintro e w4 ⟨rfl,rfl⟩;clear HLN;go_wp2_with fail;refine HW.out.mono ?_;rintro e w5 ⟨rfl,h5⟩;have H5:=ac (h5.perm (af _ _ _));clear h5 HW h8 c2 hla;go_wp2_with fail
    go_roundg (gk-1)
    case measure=>omega
    case rel=>exact⟨j+1,by omega,H5.out⟩
theorem wm {w0 w:World} {F:SProp} (h:St w0 w F) (two al fin:Bool) (every:Int):
  Calls Tryz.prog 96 #[.agg #[.bool two,.int .i64 every,.bool al,.bool fin]] w fun e w'=>e= .returned (.bool (decide (1≤every)|| !two))∧St w0 w' F:=by
 have h2:St w0 (w.alloc (.cells #[.bool two,.int .i64 every,.bool al,.bool fin] 84)) F:=h.drop_alloc _;have H:=ac h2;clear h h2
 by_cases hev:1≤every
 ·have hd:decide (1≤every)=true:=decide_eq_true hev;rw[hd];go_enter Tryz.func96,Tryz.ntmps96;go_wp2_with fail;go_ret;exact⟨by simp,H.out⟩
 ·have hd:decide (1≤every)=false:=decide_eq_false hev;rw[hd];go_enter Tryz.func96,Tryz.ntmps96;go_wp2_with fail;go_ret;exact⟨by simp,H.out⟩
def iN (two:Bool):Nat→List Nat→List Nat
 | 0,a=>a
 | n+1,a=>iN two n (ak two false true a)
theorem Ed {w0 w:World} {F:SProp} (h:St w0 w F) (htab:eu w0 F) {R:List (Value × List Nat)} {v:Value} (hv:Stb w0 F (fun w=>Reads w 1 v R.length (R.map Prod.fst))) (hr:Stb w0 F (fun w=>∀ x∈R,Reads w 1 x.1 x.2.length (x.2.map nv))) {width:Nat} (h1:1≤width) (hw:width≤400) (hR:∀ x∈R,gF width x.2) (hN:R.length≤300) (al fin:Bool) (every:Int):
  Calls Tryz.prog 45 #[v,.int .i64 (width:Int),.agg #[.bool false,.int .i64 every,.bool al,.bool fin]] w fun e w'=>∃ v',e= .returned (.tuple #[v',.int .i64 0])∧St w0 w' (own 5 1 v' (aq false (fD width false al fin every (R.map Prod.snd))).length ((aq false (fD width false al fin every (R.map Prod.snd))).map bv)*F):=by
 obtain⟨a0,c0,rfl⟩:=(hv w h).sub;have HV:=ac hv;have HRR:=ac hr;have HRO:=ac hR;have HT:=ac htab;have hw1:¬ (width:Int)<1:=by omega
 have hw2:¬ (32768:Int)<width:=by omega
 have hw1d:decide ((width:Int)<1)=false:=decide_eq_false hw1;have hw2d:decide ((32768:Int)<width)=false:=decide_eq_false hw2;obtain⟨res,hres⟩:∃ res,dF width false al every 0 [] (R.map Prod.snd) []=res:=⟨_,rfl⟩;rw[fD,hres];have HRES:=ac hres;clear hres htab hv hr hR;have hrt:(decide (1≤every)|| !false)=true:=by simp
 have h2:St w0 (w.alloc (.cells #[.bool false,.int .i64 every,.bool al,.bool fin] 84)) (blk w.heap.size (.cells #[.bool false,.int .i64 every,.bool al,.bool fin] 84 (0,0))*F):=h.alloc _;have H:=ac h2;clear h h2;obtain⟨bO,hbO⟩:∃ bO,bO=w.heap.size:=⟨_,rfl⟩;rw[← hbO] at H;go_enter Tryz.func45,Tryz.ntmps45;go_wp2_with fail;refine(wm H.out false al fin every).mono ?_;rintro e w2 ⟨rfl,h2⟩;rw[hrt,← hbO];clear hbO;have H2:=ac h2;clear h2 H;go_wp2_with fail;refine(kC (low:=false) H2.out).mono ?_;rintro e w3 ⟨Wb,rfl,h3⟩;have H3:=ac h3;clear h3 H2;go_wp2_with fail;refine(oM H3.out (fun w h=>HT.out w h.right.right)).mono ?_;rintro e w4 ⟨C,rfl,h4⟩;have h5:=(h4.lit #[] 3 0 rfl (by decide)).perm (show _=bc C*(az Wb [] false*(blk bO (.cells #[.bool false,.int .i64 every,.bool al,.bool fin] 84 (0,0))*(own 3 1 (.slice (some ⟨w4.heap.size,0,none⟩) 0 0) 0 []*F))) by simp only;ac_rfl);have H5:=ac h5;clear h4 h5 H3;go_wp2_with fail;generalize w4.heap.size=gA at*
 go_loopw [10,31] (fun va vi wr=>∃ (k:Nat) (acc top:List Nat) (aa:Option Addr) (ca:Nat),k≤R.length∧vi= .int .i64 k∧va= .slice aa top.length ca∧acc.length≤300000*k∧dF width false al every k top ((R.map Prod.snd).drop k) acc=res∧(top.Pairwise (· < ·)∧(∀ x∈top,x<width)∧top.length≤400)∧
   Stb w0 (own 3 1 (.slice (some ⟨gA,0,none⟩) 0 0) 0 []*F) (fun w=>Reads w 1 (.slice aa top.length ca) top.length (top.map nv))∧St w0 wr (bc C*(az Wb acc false*(blk bO (.cells #[.bool false,.int .i64 every,.bool al,.bool fin] 84 (0,0))*(own 3 1 (.slice (some ⟨gA,0,none⟩) 0 0) 0 []*F))))) (fun _ vi _=>R.length-(intOf vi).toNat)
 case atStart=>exact⟨0,[],[],some ⟨gA,0,none⟩,0,by omega,rfl,rfl,by simp,HRES.out,⟨List.Pairwise.nil,(fun x hx=>by cases hx),by simp⟩,Stb.of_own,H5.out⟩
 case round=>
  clear H5 HRES;obtain⟨k,acc,top,aa,ca,hk,rfl,rfl,hal,hall,htop,hstb,hst⟩:=hrel;have htop2:top.Pairwise (· < ·)∧∀ x∈top,x<width:=⟨htop.1,htop.2.1⟩
  by_cases hkn:k<R.length
  ·have hkl:(k:Int)<R.length:=by omega
   obtain⟨g,o,rfl,e1⟩:=(HV.out wr hst.right.right.right.right).at_ hkn;have hx:=ai hkn;rw[au,hx] at e1;simp only[cB] at e1;have hmem:=bo hkn;have hd:(R.map Prod.snd).drop k=R[k].2::(R.map Prod.snd).drop (k+1):=by
    rw[cC (by simpa using hkn),gs]
   rw[hd,dF] at hall;have hro:=HRO.out _ hmem;have hrd:Stb w0 F (fun w=>Reads w 1 R[k].1 R[k].2.length (R[k].2.map nv)):=fun w h=>HRR.out w h _ hmem
   clear hx hd hmem;obtain⟨⟨xv,xl⟩,hxx⟩:∃ x,R[k]=x:=⟨_,rfl⟩;rw[hxx] at e1 hall hro hrd;simp only at e1 hall hro hrd;clear hxx;obtain⟨ax,cx,rfl⟩:=(hrd wr hst.right.right.right.right).sub;have hsg:fQ false every k=true:=rfl;rw[hsg] at hall;clear hsg;have HEND:=ac (kN (hst.perm (show _=az Wb acc false*(bc C*(blk bO (.cells #[.bool false,.int .i64 every,.bool al,.bool fin] 84 (0,0))*(own 3 1 (.slice (some ⟨gA,0,none⟩) 0 0) 0 []*F))) by ac_rfl)) false al fin true every (by omega));have hel:=dO false al true acc;have hbl:=kM (s:=true) hw hro htop2;have HB:=ac (fun(w':World) (h:St w0 w' (bc C*(az Wb (ak false al true acc) false*(blk bO (.cells #[.bool false,.int .i64 every,.bool al,.bool fin] 84 (0,0))*(own 3 1 (.slice (some ⟨gA,0,none⟩) 0 0) 0 []*F)))))=>(by have C:=rL h ((hrd.more _).more _) hro.1 hro.2.1 h1 (by omega) (by have:=hro.2.2;omega) (by have:=dO false al true acc;omega);rw[show cE false (bY 0 xl width)=bZ width true xl top from rfl] at C;exact C));have hal3:(ak false al true acc++bZ width true xl top).length≤300000*(k+1):=by rw[ae];omega
   have HALL:=ac (⟨hall,hal3,hro⟩:_∧_∧_);have HRX:=ac (hrd.more (own 3 1 (.slice (some ⟨gA,0,none⟩) 0 0) 0 []));have c0:=hst.right.right.cell 0 rfl;have c1:=hst.right.right.cell 1 rfl;have c2:=hst.right.right.cell 2 rfl;have c3:=hst.right.right.cell 3 rfl;clear hall hal3 hbl hro hrd hst htop htop2 hstb hel;generalize ak false al true acc++bZ width true xl top=acc2 at*
   go_wp2_with fail;refine HEND.out.mono ?_;rintro e w5 ⟨rfl,h5⟩;have HW:=ac (HB.out _ (h5.perm (af _ _ _)));clear h5 HEND HB c0 c1 c2 c3;go_wp2_with fail;refine HW.out.mono ?_;rintro e w6 ⟨rfl,h6⟩;have H6:=ac h6;clear h6 HW;go_wp2_with fail;exact⟨⟨k+1,acc2,xl,ax,cx,by omega,by go_num,rfl,HALL.out.2.1,HALL.out.1,HALL.out.2.2,HRX.out,H6.out⟩,by simp [intOf];omega⟩
  ·obtain rfl:k=R.length:=by omega
   rw[iD (by simp),dF] at hall;subst hall;have ha9:acc.length≤90000000:=by omega
   have c3:=hst.right.right.cell 3 rfl;have c0:=hst.right.right.cell 0 rfl;have c1:=hst.right.right.cell 1 rfl;have c2:=hst.right.right.cell 2 rfl;clear hstb htop htop2 hal;cases fin
   ·have HBY:=hU (hst.perm (show _=az Wb acc false*(bc C*(blk bO (.cells #[.bool false,.int .i64 every,.bool al,.bool false] 84 (0,0))*(own 3 1 (.slice (some ⟨gA,0,none⟩) 0 0) 0 []*F))) by ac_rfl));have hl1:(aq false acc).length=(acc.length+7)/8:=dm _ _;rw[← hl1] at HBY;obtain⟨E,hE⟩:∃ E,E=aq false acc:=⟨_,rfl⟩;rw[← hE] at HBY;have HEE:=ac hE;clear hE;have HBY:=ac HBY;clear hst hl1;go_wp2_with fail;refine HBY.out.mono ?_;rintro e w7 ⟨v7,rfl,h7⟩;obtain⟨a7,c7,rfl⟩:=h7.reads.sub;have H7:=ac (h7.perm (show _=az Wb acc false*(bc C*(blk bO (.cells #[.bool false,.int .i64 every,.bool al,.bool false] 84 (0,0))*(own 3 1 (.slice (some ⟨gA,0,none⟩) 0 0) 0 []*(own 5 1 (.slice a7 E.length c7) E.length (E.map bv)*F)))) by ac_rfl)).right.right.right.right;clear h7 HBY;go_wp2_with fail;go_ret2;rw[show aq false (jH false al false acc)=E from HEE.out.symm];exact⟨_,rfl,H7.out⟩
   ·have HEND:=ac (kN (hst.perm (show _=az Wb acc false*(bc C*(blk bO (.cells #[.bool false,.int .i64 every,.bool al,.bool true] 84 (0,0))*(own 3 1 (.slice (some ⟨gA,0,none⟩) 0 0) 0 []*F))) by ac_rfl)) false al true true every (by omega));have hel:=dO false al true acc;clear hst;go_wp2_with fail;refine HEND.out.mono ?_;rintro e w5 ⟨rfl,h5⟩;have h5:=h5.perm (show _=blk bO (.cells #[.bool false,.int .i64 every,.bool al,.bool true] 84 (0,0))*(az Wb (ak false al true acc) false*(bc C*(own 3 1 (.slice (some ⟨gA,0,none⟩) 0 0) 0 []*F))) by ac_rfl);have f2:=h5.free 2;have d2:=h5.cell 2 rfl;have h6:=h5.set 2 (.bool false);have h6:St w0 _ (blk bO (.cells #[.bool false,.int .i64 every,.bool false,.bool true] 84 (0,0))*(az Wb (ak false al true acc) false*(bc C*(own 3 1 (.slice (some ⟨gA,0,none⟩) 0 0) 0 []*F)))):=h6;have H6:=ac h6;obtain⟨fin9,hf9⟩:∃ fin9,fin9=jH false al true acc:=⟨_,rfl⟩;have HF9:=ac hf9;have h59:iN false 5 (ak false al true acc)=fin9:=by rw[hf9];rfl
    have hl59:(ak false al true acc).length≤90000100:=by omega
    generalize ak false al true acc=acc1 at*
    have H59:=ac h59;clear h5 h6 HEND c0 c1 c2 c3 hel hf9 h59;go_wp2_with fail;generalize w5.setCell ⟨bO,2,none⟩ (.bool false)=w6 at*
    clear f2 d2
    go_loopw [73] (fun vq wr=>∃ (q:Nat) (a:List Nat),q≤5∧vq= .int .i64 q∧a.length≤90000100+20*q∧iN false (5-q) a=fin9∧St w0 wr (blk bO (.cells #[.bool false,.int .i64 every,.bool false,.bool true] 84 (0,0))*(az Wb a false*(bc C*(own 3 1 (.slice (some ⟨gA,0,none⟩) 0 0) 0 []*F))))) (fun vq _=>5-(intOf vq).toNat)
    case atStart=>exact⟨0,acc1,by omega,rfl,by omega,H59.out,H6.out⟩
    case round=>
     clear H6 H59;obtain⟨q,a,hq,rfl,hal,hall,hst⟩:=hrel
     by_cases hq5:q<5
     ·have hqi:(q:Int)<5:=by omega
      obtain⟨m,hm⟩:∃ m,5-q=m+1:=⟨4-q,by omega⟩;rw[hm,iN] at hall;have hel:=dO false false true a;have c0:=hst.cell 0 rfl;have c1:=hst.cell 1 rfl;have c2:=hst.cell 2 rfl;have c3:=hst.cell 3 rfl;have HEND:=ac (kN (hst.perm (af _ _ _)) false false true true every (by omega));have HH:=ac (⟨by omega,by rw[show 5-(q+1)=m by omega];exact hall⟩:(ak false false true a).length≤90000100+20*(q+1)∧iN false (5-(q+1)) (ak false false true a)=fin9);clear hst hall hm hel;generalize ak false false true a=a2 at*
      go_wp2_with fail;refine HEND.out.mono ?_;rintro e w7 ⟨rfl,h7⟩;have H7:=ac (h7.perm (af _ _ _));clear h7 HEND c0 c1 c2 c3;go_wp2_with fail;exact⟨⟨q+1,a2,by omega,by go_num,HH.out.1,HH.out.2,H7.out⟩,by simp [intOf];omega⟩
     ·obtain rfl:q=5:=by omega
      rw[du,iN] at hall;have HA9:=ac hall;have HBY:=hU (hst.perm (af _ _ _));have hl1:(aq false a).length=(a.length+7)/8:=dm _ _;rw[← hl1] at HBY;obtain⟨E,hE⟩:∃ E,E=aq false a:=⟨_,rfl⟩;rw[← hE] at HBY;have HEE:=ac hE;clear hE;have HBY:=ac HBY;clear hst hl1 hall;go_wp2_with fail;refine HBY.out.mono ?_;rintro e w7 ⟨v7,rfl,h7⟩;obtain⟨a7,c7,rfl⟩:=h7.reads.sub;have H7:=ac (h7.perm (show _=az Wb a false*(blk bO (.cells #[.bool false,.int .i64 every,.bool false,.bool true] 84 (0,0))*(bc C*(own 3 1 (.slice (some ⟨gA,0,none⟩) 0 0) 0 []*(own 5 1 (.slice a7 E.length c7) E.length (E.map bv)*F)))) by ac_rfl)).right.right.right.right;clear h7 HBY;go_wp2_with fail;go_ret2;rw[← HF9.out,← HA9.out,← HEE.out];exact⟨_,rfl,H7.out⟩
theorem Ee {w0 w:World} {F:SProp} (h:St w0 w F) (htab:eu w0 F) {R:List (Value × List Nat)} {v:Value} (hv:Stb w0 F (fun w=>Reads w 1 v R.length (R.map Prod.fst))) (hr:Stb w0 F (fun w=>∀ x∈R,Reads w 1 x.1 x.2.length (x.2.map nv))) {width:Nat} (h1:1≤width) (hw:width≤400) (hR:∀ x∈R,gF width x.2) (hN:R.length≤300) (al fin:Bool) (every:Int) (hev:1≤every):
  Calls Tryz.prog 45 #[v,.int .i64 (width:Int),.agg #[.bool true,.int .i64 every,.bool al,.bool fin]] w fun e w'=>∃ v',e= .returned (.tuple #[v',.int .i64 0])∧St w0 w' (own 5 1 v' (aq false (fD width true al fin every (R.map Prod.snd))).length ((aq false (fD width true al fin every (R.map Prod.snd))).map bv)*F):=by
 obtain⟨a0,c0,rfl⟩:=(hv w h).sub;have HV:=ac hv;have HRR:=ac hr;have HRO:=ac hR;have HT:=ac htab;have hw1:¬ (width:Int)<1:=by omega
 have hw2:¬ (32768:Int)<width:=by omega
 have hw1d:decide ((width:Int)<1)=false:=decide_eq_false hw1;have hw2d:decide ((32768:Int)<width)=false:=decide_eq_false hw2;obtain⟨res,hres⟩:∃ res,dF width true al every 0 [] (R.map Prod.snd) []=res:=⟨_,rfl⟩;rw[fD,hres];have HRES:=ac hres;clear hres htab hv hr hR;have hrt:(decide (1≤every)|| !true)=true:=by simp;omega
 have h2:St w0 (w.alloc (.cells #[.bool true,.int .i64 every,.bool al,.bool fin] 84)) (blk w.heap.size (.cells #[.bool true,.int .i64 every,.bool al,.bool fin] 84 (0,0))*F):=h.alloc _;have H:=ac h2;clear h h2;obtain⟨bO,hbO⟩:∃ bO,bO=w.heap.size:=⟨_,rfl⟩;rw[← hbO] at H;go_enter Tryz.func45,Tryz.ntmps45;go_wp2_with fail;refine(wm H.out true al fin every).mono ?_;rintro e w2 ⟨rfl,h2⟩;rw[hrt,← hbO];clear hbO;have H2:=ac h2;clear h2 H;go_wp2_with fail;refine(kC (low:=false) H2.out).mono ?_;rintro e w3 ⟨Wb,rfl,h3⟩;have H3:=ac h3;clear h3 H2;go_wp2_with fail;refine(oM H3.out (fun w h=>HT.out w h.right.right)).mono ?_;rintro e w4 ⟨C,rfl,h4⟩;have h5:=(h4.lit #[] 3 0 rfl (by decide)).perm (show _=bc C*(az Wb [] false*(blk bO (.cells #[.bool true,.int .i64 every,.bool al,.bool fin] 84 (0,0))*(own 3 1 (.slice (some ⟨w4.heap.size,0,none⟩) 0 0) 0 []*F))) by simp only;ac_rfl);have H5:=ac h5;clear h4 h5 H3;go_wp2_with fail;generalize w4.heap.size=gA at*
 go_loopw [10,31] (fun va vi wr=>∃ (k:Nat) (acc top:List Nat) (aa:Option Addr) (ca:Nat),k≤R.length∧vi= .int .i64 k∧va= .slice aa top.length ca∧acc.length≤300000*k∧dF width true al every k top ((R.map Prod.snd).drop k) acc=res∧(top.Pairwise (· < ·)∧(∀ x∈top,x<width)∧top.length≤400)∧
   Stb w0 (own 3 1 (.slice (some ⟨gA,0,none⟩) 0 0) 0 []*F) (fun w=>Reads w 1 (.slice aa top.length ca) top.length (top.map nv))∧St w0 wr (bc C*(az Wb acc false*(blk bO (.cells #[.bool true,.int .i64 every,.bool al,.bool fin] 84 (0,0))*(own 3 1 (.slice (some ⟨gA,0,none⟩) 0 0) 0 []*F))))) (fun _ vi _=>R.length-(intOf vi).toNat)
 case atStart=>exact⟨0,[],[],some ⟨gA,0,none⟩,0,by omega,rfl,rfl,by simp,HRES.out,⟨List.Pairwise.nil,(fun x hx=>by cases hx),by simp⟩,Stb.of_own,H5.out⟩
 case round=>
  clear H5 HRES;obtain⟨k,acc,top,aa,ca,hk,rfl,rfl,hal,hall,htop,hstb,hst⟩:=hrel;have htop2:top.Pairwise (· < ·)∧∀ x∈top,x<width:=⟨htop.1,htop.2.1⟩
  by_cases hkn:k<R.length
  ·have hkl:(k:Int)<R.length:=by omega
   obtain⟨g,o,rfl,e1⟩:=(HV.out wr hst.right.right.right.right).at_ hkn;have hx:=ai hkn;rw[au,hx] at e1;simp only[cB] at e1;have hmem:=bo hkn;have hd:(R.map Prod.snd).drop k=R[k].2::(R.map Prod.snd).drop (k+1):=by
    rw[cC (by simpa using hkn),gs]
   rw[hd,dF] at hall;have hro:=HRO.out _ hmem;have hrd:Stb w0 F (fun w=>Reads w 1 R[k].1 R[k].2.length (R[k].2.map nv)):=fun w h=>HRR.out w h _ hmem
   clear hx hd hmem;obtain⟨⟨xv,xl⟩,hxx⟩:∃ x,R[k]=x:=⟨_,rfl⟩;rw[hxx] at e1 hall hro hrd;simp only at e1 hall hro hrd;clear hxx;obtain⟨ax,cx,rfl⟩:=(hrd wr hst.right.right.right.right).sub;have hev:=hev;have hev0:¬ every=0:=by omega
   by_cases hz:(k:Int)%every=0
   ·have hsg:fQ true every k=true:=decide_eq_true hz;have hzb:((k:Int)%every==0)=true:=by simpa using hz
    rw[hsg] at hall;clear hsg;have HEND:=ac (kN (hst.perm (show _=az Wb acc false*(bc C*(blk bO (.cells #[.bool true,.int .i64 every,.bool al,.bool fin] 84 (0,0))*(own 3 1 (.slice (some ⟨gA,0,none⟩) 0 0) 0 []*F))) by ac_rfl)) true al fin true every (by omega));have hel:=dO true al true acc;have hbl:=kM (s:=true) hw hro htop2;have HB:=ac (fun(w':World) (h:St w0 w' (bc C*(az Wb (ak true al true acc) false*(blk bO (.cells #[.bool true,.int .i64 every,.bool al,.bool fin] 84 (0,0))*(own 3 1 (.slice (some ⟨gA,0,none⟩) 0 0) 0 []*F)))))=>(by have C:=rL h ((hrd.more _).more _) hro.1 hro.2.1 h1 (by omega) (by have:=hro.2.2;omega) (by have:=dO true al true acc;omega);rw[show cE false (bY 0 xl width)=bZ width true xl top from rfl] at C;exact C));have hal3:(ak true al true acc++bZ width true xl top).length≤300000*(k+1):=by rw[ae];omega
    have HALL:=ac (⟨hall,hal3,hro⟩:_∧_∧_);have HRX:=ac (hrd.more (own 3 1 (.slice (some ⟨gA,0,none⟩) 0 0) 0 []));have c0:=hst.right.right.cell 0 rfl;have c1:=hst.right.right.cell 1 rfl;have c2:=hst.right.right.cell 2 rfl;have c3:=hst.right.right.cell 3 rfl;clear hall hal3 hbl hro hrd hst htop htop2 hstb hel;generalize ak true al true acc++bZ width true xl top=acc2 at*
    go_wp2_with fail;refine HEND.out.mono ?_;rintro e w5 ⟨rfl,h5⟩;have HW:=ac (HB.out _ (h5.perm (af _ _ _)));clear h5 HEND HB c0 c1 c2 c3;go_wp2_with fail;refine HW.out.mono ?_;rintro e w6 ⟨rfl,h6⟩;have H6:=ac h6;clear h6 HW;go_wp2_with fail;exact⟨⟨k+1,acc2,xl,ax,cx,by omega,by go_num,rfl,HALL.out.2.1,HALL.out.1,HALL.out.2.2,HRX.out,H6.out⟩,by simp [intOf];omega⟩
   ·have hsg:fQ true every k=false:=decide_eq_false hz;have hzb:((k:Int)%every==0)=false:=by simpa using hz
    rw[hsg] at hall;clear hsg;have HEND:=ac (kN (hst.perm (show _=az Wb acc false*(bc C*(blk bO (.cells #[.bool true,.int .i64 every,.bool al,.bool fin] 84 (0,0))*(own 3 1 (.slice (some ⟨gA,0,none⟩) 0 0) 0 []*F))) by ac_rfl)) true al fin false every (by omega));have hel:=dO true al false acc;have hbl:=kM (s:=false) hw hro htop2;have HB:=ac (fun(w':World) (h:St w0 w' (bc C*(az Wb (ak true al false acc) false*(blk bO (.cells #[.bool true,.int .i64 every,.bool al,.bool fin] 84 (0,0))*(own 3 1 (.slice (some ⟨gA,0,none⟩) 0 0) 0 []*F)))))=>(by have C:=wb h ((hrd.more _).more _) (hstb.more _) hro.1 hro.2.1 htop.1 htop.2.1 h1 (by omega) (by have:=hro.2.2;omega) (by have:=htop.2.2;omega) (by have:=dO true al false acc;omega);rw[show db xl top width (width+1) (-1) false=bZ width false xl top from rfl] at C;exact C));have hal3:(ak true al false acc++bZ width false xl top).length≤300000*(k+1):=by rw[ae];omega
    have HALL:=ac (⟨hall,hal3,hro⟩:_∧_∧_);have HRX:=ac (hrd.more (own 3 1 (.slice (some ⟨gA,0,none⟩) 0 0) 0 []));have c0:=hst.right.right.cell 0 rfl;have c1:=hst.right.right.cell 1 rfl;have c2:=hst.right.right.cell 2 rfl;have c3:=hst.right.right.cell 3 rfl;clear hall hal3 hbl hro hrd hst htop htop2 hstb hel;generalize ak true al false acc++bZ width false xl top=acc2 at*
    go_wp2_with fail;refine HEND.out.mono ?_;rintro e w5 ⟨rfl,h5⟩;have HW:=ac (HB.out _ (h5.perm (af _ _ _)));clear h5 HEND HB c0 c1 c2 c3;go_wp2_with fail;refine HW.out.mono ?_;rintro e w6 ⟨rfl,h6⟩;have H6:=ac h6;clear h6 HW;go_wp2_with fail;exact⟨⟨k+1,acc2,xl,ax,cx,by omega,by go_num,rfl,HALL.out.2.1,HALL.out.1,HALL.out.2.2,HRX.out,H6.out⟩,by simp [intOf];omega⟩
  ·obtain rfl:k=R.length:=by omega
   rw[iD (by simp),dF] at hall;subst hall;have ha9:acc.length≤90000000:=by omega
   have c3:=hst.right.right.cell 3 rfl;have c0:=hst.right.right.cell 0 rfl;have c1:=hst.right.right.cell 1 rfl;have c2:=hst.right.right.cell 2 rfl;clear hstb htop htop2 hal;cases fin
   ·have HBY:=hU (hst.perm (show _=az Wb acc false*(bc C*(blk bO (.cells #[.bool true,.int .i64 every,.bool al,.bool false] 84 (0,0))*(own 3 1 (.slice (some ⟨gA,0,none⟩) 0 0) 0 []*F))) by ac_rfl));have hl1:(aq false acc).length=(acc.length+7)/8:=dm _ _;rw[← hl1] at HBY;obtain⟨E,hE⟩:∃ E,E=aq false acc:=⟨_,rfl⟩;rw[← hE] at HBY;have HEE:=ac hE;clear hE;have HBY:=ac HBY;clear hst hl1;go_wp2_with fail;refine HBY.out.mono ?_;rintro e w7 ⟨v7,rfl,h7⟩;obtain⟨a7,c7,rfl⟩:=h7.reads.sub;have H7:=ac (h7.perm (show _=az Wb acc false*(bc C*(blk bO (.cells #[.bool true,.int .i64 every,.bool al,.bool false] 84 (0,0))*(own 3 1 (.slice (some ⟨gA,0,none⟩) 0 0) 0 []*(own 5 1 (.slice a7 E.length c7) E.length (E.map bv)*F)))) by ac_rfl)).right.right.right.right;clear h7 HBY;go_wp2_with fail;go_ret2;rw[show aq false (jH true al false acc)=E from HEE.out.symm];exact⟨_,rfl,H7.out⟩
   ·have HEND:=ac (kN (hst.perm (show _=az Wb acc false*(bc C*(blk bO (.cells #[.bool true,.int .i64 every,.bool al,.bool true] 84 (0,0))*(own 3 1 (.slice (some ⟨gA,0,none⟩) 0 0) 0 []*F))) by ac_rfl)) true al true true every (by omega));have hel:=dO true al true acc;clear hst;go_wp2_with fail;refine HEND.out.mono ?_;rintro e w5 ⟨rfl,h5⟩;have h5:=h5.perm (show _=blk bO (.cells #[.bool true,.int .i64 every,.bool al,.bool true] 84 (0,0))*(az Wb (ak true al true acc) false*(bc C*(own 3 1 (.slice (some ⟨gA,0,none⟩) 0 0) 0 []*F))) by ac_rfl);have f2:=h5.free 2;have d2:=h5.cell 2 rfl;have h6:=h5.set 2 (.bool false);have h6:St w0 _ (blk bO (.cells #[.bool true,.int .i64 every,.bool false,.bool true] 84 (0,0))*(az Wb (ak true al true acc) false*(bc C*(own 3 1 (.slice (some ⟨gA,0,none⟩) 0 0) 0 []*F)))):=h6;have H6:=ac h6;obtain⟨fin9,hf9⟩:∃ fin9,fin9=jH true al true acc:=⟨_,rfl⟩;have HF9:=ac hf9;have h59:iN true 5 (ak true al true acc)=fin9:=by rw[hf9];rfl
    have hl59:(ak true al true acc).length≤90000100:=by omega
    generalize ak true al true acc=acc1 at*
    have H59:=ac h59;clear h5 h6 HEND c0 c1 c2 c3 hel hf9 h59;go_wp2_with fail;generalize w5.setCell ⟨bO,2,none⟩ (.bool false)=w6 at*
    clear f2 d2
    go_loopw [73] (fun vq wr=>∃ (q:Nat) (a:List Nat),q≤5∧vq= .int .i64 q∧a.length≤90000100+20*q∧iN true (5-q) a=fin9∧St w0 wr (blk bO (.cells #[.bool true,.int .i64 every,.bool false,.bool true] 84 (0,0))*(az Wb a false*(bc C*(own 3 1 (.slice (some ⟨gA,0,none⟩) 0 0) 0 []*F))))) (fun vq _=>5-(intOf vq).toNat)
    case atStart=>exact⟨0,acc1,by omega,rfl,by omega,H59.out,H6.out⟩
    case round=>
     clear H6 H59;obtain⟨q,a,hq,rfl,hal,hall,hst⟩:=hrel
     by_cases hq5:q<5
     ·have hqi:(q:Int)<5:=by omega
      obtain⟨m,hm⟩:∃ m,5-q=m+1:=⟨4-q,by omega⟩;rw[hm,iN] at hall;have hel:=dO true false true a;have c0:=hst.cell 0 rfl;have c1:=hst.cell 1 rfl;have c2:=hst.cell 2 rfl;have c3:=hst.cell 3 rfl;have HEND:=ac (kN (hst.perm (af _ _ _)) true false true true every (by omega));have HH:=ac (⟨by omega,by rw[show 5-(q+1)=m by omega];exact hall⟩:(ak true false true a).length≤90000100+20*(q+1)∧iN true (5-(q+1)) (ak true false true a)=fin9);clear hst hall hm hel;generalize ak true false true a=a2 at*
      go_wp2_with fail;refine HEND.out.mono ?_;rintro e w7 ⟨rfl,h7⟩;have H7:=ac (h7.perm (af _ _ _));clear h7 HEND c0 c1 c2 c3;go_wp2_with fail;exact⟨⟨q+1,a2,by omega,by go_num,HH.out.1,HH.out.2,H7.out⟩,by simp [intOf];omega⟩
     ·obtain rfl:q=5:=by omega
      rw[du,iN] at hall;have HA9:=ac hall;have HBY:=hU (hst.perm (af _ _ _));have hl1:(aq false a).length=(a.length+7)/8:=dm _ _;rw[← hl1] at HBY;obtain⟨E,hE⟩:∃ E,E=aq false a:=⟨_,rfl⟩;rw[← hE] at HBY;have HEE:=ac hE;clear hE;have HBY:=ac HBY;clear hst hl1 hall;go_wp2_with fail;refine HBY.out.mono ?_;rintro e w7 ⟨v7,rfl,h7⟩;obtain⟨a7,c7,rfl⟩:=h7.reads.sub;have H7:=ac (h7.perm (show _=az Wb a false*(blk bO (.cells #[.bool true,.int .i64 every,.bool false,.bool true] 84 (0,0))*(bc C*(own 3 1 (.slice (some ⟨gA,0,none⟩) 0 0) 0 []*(own 5 1 (.slice a7 E.length c7) E.length (E.map bv)*F)))) by ac_rfl)).right.right.right.right;clear h7 HBY;go_wp2_with fail;go_ret2;rw[← HF9.out,← HA9.out,← HEE.out];exact⟨_,rfl,H7.out⟩
theorem gT (a b:List Nat) {l:ByteArray} (h:l=⟨(tx b).toArray⟩):(⟨(tx a).toArray⟩:ByteArray)++l=⟨(tx (a++b)).toArray⟩:=by
 rw[h,cZ];exact ByteArray.mk_append_mk _ _
theorem j6:(⟨#[48,48,48,48,48,48,48,48,48,48,48,49]⟩:ByteArray)=⟨(tx bN).toArray⟩:=kI (by decide +kernel)
theorem wo:(⟨#[49]⟩:ByteArray)=⟨(tx [1]).toArray⟩:=kI (by decide +kernel)
theorem rR:(⟨#[48]⟩:ByteArray)=⟨(tx [0]).toArray⟩:=kI (by decide +kernel)
theorem kO {w0 w:World} {F:SProp} (h:St w0 w F) {acc:List Nat} (two al fin s:Bool) (every:Int) (hal:acc.length≤1000000000) {sb:ByteArray} (hsb:sb=⟨(tx acc).toArray⟩):
  Calls Tryz.prog 59 #[.string sb,.agg #[.bool two,.int .i64 every,.bool al,.bool fin],.bool s] w fun e w'=>e= .returned (.string ⟨(tx (ak two al s acc)).toArray⟩)∧St w0 w' F:=by
 subst hsb;have h2:St w0 (w.alloc (.cells #[.bool two,.int .i64 every,.bool al,.bool fin] 63)) F:=h.drop_alloc _;have H:=ac h2;clear h h2;have hlx:(tx acc).length=acc.length:=by simp
 cases al
 ·cases two <;> cases s
  ·go_enter Tryz.func59,Tryz.ntmps59;have HE:=ac (show(⟨(tx acc).toArray⟩:ByteArray)++⟨#[48,48,48,48,48,48,48,48,48,48,48,49]⟩=⟨(tx (ak false false false acc)).toArray⟩ by
    rw[show ak false false false acc=acc++bN by rw[ak];simp only[cond,bE,List.append_assoc,ba] <;> first | rfl | (rw[HZ.out,HA.out];simp only[List.append_assoc])];exact gT acc bN j6)
   go_wp2_with fail;go_ret;exact⟨congrArg (fun s=>Ending.returned (Value.string s)) HE.out,H.out⟩
  ·go_enter Tryz.func59,Tryz.ntmps59;have HE:=ac (show(⟨(tx acc).toArray⟩:ByteArray)++⟨#[48,48,48,48,48,48,48,48,48,48,48,49]⟩=⟨(tx (ak false false true acc)).toArray⟩ by
    rw[show ak false false true acc=acc++bN by rw[ak];simp only[cond,bE,List.append_assoc,ba] <;> first | rfl | (rw[HZ.out,HA.out];simp only[List.append_assoc])];exact gT acc bN j6)
   go_wp2_with fail;go_ret;exact⟨congrArg (fun s=>Ending.returned (Value.string s)) HE.out,H.out⟩
  ·go_enter Tryz.func59,Tryz.ntmps59;have HE:=ac (show(⟨(tx acc).toArray⟩:ByteArray)++⟨#[48,48,48,48,48,48,48,48,48,48,48,49]⟩++(⟨#[48]⟩:ByteArray)=⟨(tx (ak true false false acc)).toArray⟩ by
    rw[show ak true false false acc=(acc++bN)++[0] by rw[ak];simp only[cond,bE,List.append_assoc,ba] <;> first | rfl | (rw[HZ.out,HA.out];simp only[List.append_assoc])];exact(by rw[gT acc bN j6,gT (acc++bN) [0] rR]))
   go_wp2_with fail;go_ret;exact⟨congrArg (fun s=>Ending.returned (Value.string s)) HE.out,H.out⟩
  ·go_enter Tryz.func59,Tryz.ntmps59;have HE:=ac (show(⟨(tx acc).toArray⟩:ByteArray)++⟨#[48,48,48,48,48,48,48,48,48,48,48,49]⟩++(⟨#[49]⟩:ByteArray)=⟨(tx (ak true false true acc)).toArray⟩ by
    rw[show ak true false true acc=(acc++bN)++[1] by rw[ak];simp only[cond,bE,List.append_assoc,ba] <;> first | rfl | (rw[HZ.out,HA.out];simp only[List.append_assoc])];exact(by rw[gT acc bN j6,gT (acc++bN) [1] wo]))
   go_wp2_with fail;go_ret;exact⟨congrArg (fun s=>Ending.returned (Value.string s)) HE.out,H.out⟩
 ·have hz:dN acc.length≤7:=by rw[dN];omega
  go_enter Tryz.func59,Tryz.ntmps59;go_wp2_with fail
  go_loopg [0] (dN acc.length) (fun g vs wr=>∃ j:Nat,j+g=dN acc.length∧vs= .string ⟨(tx (acc++List.replicate j 0)).toArray⟩∧wr=w.alloc (.cells #[.bool two,.int .i64 every,.bool true,.bool fin] 63))
  case atStart=>exact⟨0,by omega,by simp,rfl⟩
  case round=>
   obtain⟨j,hj,rfl,rfl⟩:=hrel;have hla:(tx (acc++List.replicate j 0)).length=acc.length+j:=by simp
   by_cases hg:gk=0
   ·subst hg;obtain rfl:j=dN acc.length:=by omega
    have h8:(((acc.length:Int)+(dN acc.length:Nat)+12)%8 != 0)=false:=by
     have:((acc.length:Int)+(dN acc.length:Nat)+12)%8=0:=by rw[dN];omega
     rw[this];rfl
    obtain⟨A1,hA1⟩:∃ A1,A1=acc++List.replicate (dN acc.length) 0:=⟨_,rfl⟩;rw[← hA1] at hla ⊢;have HA:=ac hA1;clear hA1 hj;generalize hzz:dN acc.length=z at*
    have HZ:=ac hzz;clear hzz;cases two <;> cases s
    ·have HE:=ac (show(⟨(tx A1).toArray⟩:ByteArray)++⟨#[48,48,48,48,48,48,48,48,48,48,48,49]⟩=⟨(tx (ak false true false acc)).toArray⟩ by
      rw[show ak false true false acc=A1++bN by rw[ak];simp only[cond,bE,List.append_assoc,ba] <;> first | rfl | (rw[HZ.out,HA.out];simp only[List.append_assoc])];exact gT A1 bN j6)
     go_wp2_with fail;go_ret;exact⟨congrArg (fun s=>Ending.returned (Value.string s)) HE.out,H.out⟩
    ·have HE:=ac (show(⟨(tx A1).toArray⟩:ByteArray)++⟨#[48,48,48,48,48,48,48,48,48,48,48,49]⟩=⟨(tx (ak false true true acc)).toArray⟩ by
      rw[show ak false true true acc=A1++bN by rw[ak];simp only[cond,bE,List.append_assoc,ba] <;> first | rfl | (rw[HZ.out,HA.out];simp only[List.append_assoc])];exact gT A1 bN j6)
     go_wp2_with fail;go_ret;exact⟨congrArg (fun s=>Ending.returned (Value.string s)) HE.out,H.out⟩
    ·have HE:=ac (show(⟨(tx A1).toArray⟩:ByteArray)++⟨#[48,48,48,48,48,48,48,48,48,48,48,49]⟩++(⟨#[48]⟩:ByteArray)=⟨(tx (ak true true false acc)).toArray⟩ by
      rw[show ak true true false acc=(A1++bN)++[0] by rw[ak];simp only[cond,bE,List.append_assoc,ba] <;> first | rfl | (rw[HZ.out,HA.out];simp only[List.append_assoc])];exact(by rw[gT A1 bN j6,gT (A1++bN) [0] rR]))
     go_wp2_with fail;go_ret;exact⟨congrArg (fun s=>Ending.returned (Value.string s)) HE.out,H.out⟩
    ·have HE:=ac (show(⟨(tx A1).toArray⟩:ByteArray)++⟨#[48,48,48,48,48,48,48,48,48,48,48,49]⟩++(⟨#[49]⟩:ByteArray)=⟨(tx (ak true true true acc)).toArray⟩ by
      rw[show ak true true true acc=(A1++bN)++[1] by rw[ak];simp only[cond,bE,List.append_assoc,ba] <;> first | rfl | (rw[HZ.out,HA.out];simp only[List.append_assoc])];exact(by rw[gT A1 bN j6,gT (A1++bN) [1] wo]))
     go_wp2_with fail;go_ret;exact⟨congrArg (fun s=>Ending.returned (Value.string s)) HE.out,H.out⟩
   ·have h8:(((acc.length:Int)+j+12)%8 != 0)=true:=by
     rw[bne_iff_ne];rw[dN] at hj;omega
    have hj7:j≤7:=by omega
    have HE:=ac (show(⟨(tx (acc++List.replicate j 0)).toArray⟩:ByteArray)++⟨#[48]⟩=⟨(tx (acc++List.replicate (j+1) 0)).toArray⟩ by
     rw[gT _ [0] rR,ft,List.append_assoc])
    have HJ:=ac hj;clear hj;go_wp2_with fail
    go_roundg (gk-1)
    case measure=>omega
    case rel=>exact⟨j+1,by have:=HJ.out;omega,congrArg Value.string HE.out,rfl⟩
def bm (Ps:List (List Nat)) (k:Nat):List Nat:=if k=0 then [] else ay (Ps.getD (k-1) [])
def iO (two:Bool):Nat→List Nat→List Nat
 | 0,a=>a
 | n+1,a=>iO two n (ak two false true a)
theorem Ef {w0 w:World} {F:SProp} (h:St w0 w F) {Ps:List (List Nat)} {v:Value} (hv:Stb w0 F (fun w=>Reads w 1 v Ps.length (Ps.map aD))) {width:Nat} (h1:1≤width) (hw:width≤400) (hP:∀ P∈Ps,P.length=width∧Bit P) (hN:Ps.length≤100) (al fin:Bool) (every:Int):
  Calls Tryz.prog 28 #[v,.agg #[.bool false,.int .i64 every,.bool al,.bool fin]] w fun e w'=>e= .returned (.string ⟨(aq false (fD width false al fin every (Ps.map ay))).toArray⟩)∧St w0 w' F:=by
 obtain⟨a0,c0,rfl⟩:=(hv w h).sub;have HV:=ac hv;have HP:=ac hP;obtain⟨res,hres⟩:∃ res,dF width false al every 0 [] (Ps.map ay) []=res:=⟨_,rfl⟩;rw[fD,hres];have HRES:=ac hres;clear hres hv hP;have h2:St w0 (w.alloc (.cells #[.bool false,.int .i64 every,.bool al,.bool fin] 63)) (blk w.heap.size (.cells #[.bool false,.int .i64 every,.bool al,.bool fin] 63 (0,0))*F):=h.alloc _;have H:=ac h2;clear h h2;obtain⟨bO,hbO⟩:∃ bO,bO=w.heap.size:=⟨_,rfl⟩;rw[← hbO] at H;go_enter Tryz.func28,Tryz.ntmps28;go_wp2_with fail;rw[← hbO];clear hbO
 go_loopw [5,6] (fun vs vi wr=>∃ (k:Nat) (acc:List Nat),k≤Ps.length∧vi= .int .i64 k∧vs= .string ⟨(tx acc).toArray⟩∧acc.length≤300000*k∧Bit acc∧dF width false al every k (bm Ps k) ((Ps.map ay).drop k) acc=res∧St w0 wr (blk bO (.cells #[.bool false,.int .i64 every,.bool al,.bool fin] 63 (0,0))*F)) (fun _ vi _=>Ps.length-(intOf vi).toNat)
 case atStart=>exact⟨0,[],by omega,rfl,rfl,by simp,jg,HRES.out,H.out⟩
 case round=>
  clear H HRES;obtain⟨k,acc,hk,rfl,rfl,hal,hba,hall,hst⟩:=hrel;have hla:(tx acc).length=acc.length:=by simp
  by_cases hkn:k<Ps.length
  ·have hkl:(k:Int)<Ps.length:=by omega
   obtain⟨g,o,rfl,e1⟩:=(HV.out wr hst.right).at_ hkn;have hx:=ai hkn;rw[au,hx] at e1;simp only[cB,aD] at e1;obtain⟨hPl,hPb⟩:=HP.out _ (bo hkn);have hd:(Ps.map ay).drop k=ay Ps[k]::(Ps.map ay).drop (k+1):=by
    rw[cC (by simpa using hkn),gs]
   have htn:bm Ps (k+1)=ay Ps[k]:=by rw[bm,if_neg (by omega),ld,List.getD_eq_getElem?_getD,hx];rfl
   rw[hd,dF] at hall;have hall:dF width false al every (k+1) (bm Ps (k+1)) ((Ps.map ay).drop (k+1)) (ak false al (fQ false every k) acc++bZ width (fQ false every k) (ay Ps[k]) (bm Ps k))=res:=by rw[htn];exact hall
   have htopk:(bm Ps k).Pairwise (· < ·)∧∀ x∈bm Ps k,x<width:=by
    rw[bm]
    split
    ·exact⟨List.Pairwise.nil,fun x hx=>by cases hx⟩
    ·have hq:k-1<Ps.length:=by omega
     have:=(HP.out _ (bo hq)).1;rw[List.getD_eq_getElem?_getD,ai hq];exact lD this
   have HCE:=ac (fun w' (h:St w0 w' F)=>by
    obtain⟨g2,o2,e2,e3⟩:=(HV.out w' h).at_ hkn;cases e2;rw[au,hx] at e3;exact e3:∀ w',St w0 w' F→w'.cell? ⟨g,o+k,none⟩=some (.string ⟨(tx Ps[k]).toArray⟩))
   have HCQ:=ac (fun(hk0:0<k)=>(fun w' (h:St w0 w' F)=>by
    have hq:k-1<Ps.length:=by omega
    obtain⟨g2,o2,e2,e3⟩:=(HV.out w' h).at_ hq;cases e2;rw[au,ai hq] at e3;exact e3:∀ w',St w0 w' F→w'.cell? ⟨g,o+(k-1),none⟩=some (.string ⟨(tx (Ps[k-1]'(by omega))).toArray⟩)))
   have HQQ:=ac (fun(hk0:0<k)=>(by
    have hq:k-1<Ps.length:=by omega
    have:=HP.out _ (bo hq);refine⟨this.1,this.2,?_⟩;rw[bm,if_neg (by omega),List.getD_eq_getElem?_getD,ai hq];rfl:(Ps[k-1]'(by omega)).length=width∧Bit (Ps[k-1]'(by omega))∧ay (Ps[k-1]'(by omega))=bm Ps k))
   clear hx hd;clear htn;generalize Ps[k]=P at*
   have hsg:fQ false every k=true:=rfl;rw[hsg] at hall;clear hsg HCQ HQQ;have HEND:=ac (kO hst false al fin true every (acc:=acc) (by omega) (sb:=⟨(tx acc).toArray⟩) rfl);have hel:=dO false al true acc;have hbE:Bit (ak false al true acc):=kL hba;have c0:=hst.cell 0 rfl;have c1:=hst.cell 1 rfl;have c2:=hst.cell 2 rfl;have c3:=hst.cell 3 rfl;have HBD:=ac (fun(w':World) (G:SProp) (h:St w0 w' G)=>(by have C:=rN h hPb (by omega) (sb:=⟨(tx P).toArray⟩) rfl;rw[rH hPb,hPl,show cE false (bY 0 (ay P) width)=bZ width true (ay P) (bm Ps k) from rfl] at C;exact C));have hbl:=kM (width:=width) (by omega) (s:=true) (oS hPl (by omega)) htopk;have hbb:=rQ width true (ay P) (bm Ps k);have hal3:(ak false al true acc++bZ width true (ay P) (bm Ps k)).length≤300000*(k+1):=by rw[ae];omega
   have HH:=ac (⟨hal3,hbE.append hbb,hall⟩:_∧_∧_);have hlA:(tx (ak false al true acc)).length=(ak false al true acc).length:=by simp
   have hlX:(tx (bZ width true (ay P) (bm Ps k))).length=(bZ width true (ay P) (bm Ps k)).length:=by simp
   have hba2:=ByteArray.mk_append_mk (tx (ak false al true acc)) (tx (bZ width true (ay P) (bm Ps k)));rw[← cZ] at hba2;have HBA:=ac hba2;have hA9:(ak false al true acc).length≤30000100:=by omega
   have hX9:(bZ width true (ay P) (bm Ps k)).length≤290000:=hbl;clear hall hal3 hba hbE hbb hbl hel hba2 hst hPl hPb htopk;generalize ak false al true acc=acc1 at*
   generalize bZ width true (ay P) (bm Ps k)=X at*
   go_wp2_with fail;refine HEND.out.mono ?_;rintro e w5 ⟨rfl,h5⟩;clear HEND c0 c1 c2 c3;have e5:=HCE.out _ h5.right;have HB:=ac (HBD.out _ _ h5);clear h5 HBD;go_wp2_with fail;refine HB.out.mono ?_;rintro e w6 ⟨rfl,h6⟩;have H6:=ac h6;clear h6 HB;go_wp2_with fail;exact⟨⟨k+1,acc1++X,by omega,by go_num,congrArg Value.string HBA.out,HH.out.1,HH.out.2.1,HH.out.2.2,H6.out⟩,by simp [intOf];omega⟩
  ·obtain rfl:k=Ps.length:=by omega
   rw[iD (by simp),dF] at hall;subst hall;have ha9:acc.length≤30000000:=by omega
   have c0:=hst.cell 0 rfl;have c1:=hst.cell 1 rfl;have c2:=hst.cell 2 rfl;have c3:=hst.cell 3 rfl;clear hal;cases fin
   ·have HBY:=ac (jW hba false hst (by omega) (s:=⟨(tx acc).toArray⟩) rfl);clear hst hba;go_wp2_with fail;refine HBY.out.mono ?_;rintro e w5 ⟨rfl,h5⟩;have H5:=ac h5.right;clear h5 HBY;go_wp2_with fail;go_ret;exact⟨rfl,H5.out⟩
   ·have HEND:=ac (kO hst false al true true every (acc:=acc) (by omega) (sb:=⟨(tx acc).toArray⟩) rfl);have hel:=dO false al true acc;have hb1:Bit (ak false al true acc):=kL hba;clear hst hba;obtain⟨fin9,hf9⟩:∃ fin9,fin9=jH false al true acc:=⟨_,rfl⟩;have HF9:=ac hf9;have h59:iO false 5 (ak false al true acc)=fin9:=by rw[hf9];rfl
    have hl59:(ak false al true acc).length≤30000100:=by omega
    generalize ak false al true acc=acc1 at*
    have H59:=ac (⟨h59,hb1⟩:_∧_);clear hf9 h59 hb1 hel;go_wp2_with fail;refine HEND.out.mono ?_;rintro e w5 ⟨rfl,h5⟩;have f2:=h5.free 2;have d2:=h5.cell 2 rfl;have h6:=h5.set 2 (.bool false);have h6:St w0 _ (blk bO (.cells #[.bool false,.int .i64 every,.bool false,.bool true] 63 (0,0))*F):=h6;have H6:=ac h6;clear h5 h6 HEND c0 c1 c2 c3;go_wp2_with fail;generalize w5.setCell ⟨bO,2,none⟩ (.bool false)=w6 at*
    clear f2 d2
    go_loopw [5,8] (fun vs vq wr=>∃ (q:Nat) (a:List Nat),q≤5∧vq= .int .i64 q∧vs= .string ⟨(tx a).toArray⟩∧a.length≤30000100+20*q∧Bit a∧iO false (5-q) a=fin9∧St w0 wr (blk bO (.cells #[.bool false,.int .i64 every,.bool false,.bool true] 63 (0,0))*F)) (fun _ vq _=>5-(intOf vq).toNat)
    case atStart=>exact⟨0,acc1,by omega,rfl,rfl,by omega,H59.out.2,H59.out.1,H6.out⟩
    case round=>
     clear H6 H59;obtain⟨q,a,hq,rfl,rfl,hal,hba,hall,hst⟩:=hrel;have hla2:(tx a).length=a.length:=by simp
     by_cases hq5:q<5
     ·have hqi:(q:Int)<5:=by omega
      obtain⟨m,hm⟩:∃ m,5-q=m+1:=⟨4-q,by omega⟩;rw[hm,iO] at hall;have hel:=dO false false true a;have c0:=hst.cell 0 rfl;have c1:=hst.cell 1 rfl;have c2:=hst.cell 2 rfl;have c3:=hst.cell 3 rfl;have HEND:=ac (kO hst false false true true every (acc:=a) (by omega) (sb:=⟨(tx a).toArray⟩) rfl);have HH:=ac (⟨by omega,kL hba,by rw[show 5-(q+1)=m by omega];exact hall⟩:(ak false false true a).length≤30000100+20*(q+1)∧Bit (ak false false true a)∧iO false (5-(q+1)) (ak false false true a)=fin9);clear hst hall hm hel hba;generalize ak false false true a=a2 at*
      go_wp2_with fail;refine HEND.out.mono ?_;rintro e w7 ⟨rfl,h7⟩;have H7:=ac h7;clear h7 HEND c0 c1 c2 c3;go_wp2_with fail;exact⟨⟨q+1,a2,by omega,by go_num,rfl,HH.out.1,HH.out.2.1,HH.out.2.2,H7.out⟩,by simp [intOf];omega⟩
     ·obtain rfl:q=5:=by omega
      rw[du,iO] at hall;have HA9:=ac hall;have HBY:=ac (jW hba false hst (by omega) (s:=⟨(tx a).toArray⟩) rfl);clear hst hall hba;go_wp2_with fail;refine HBY.out.mono ?_;rintro e w8 ⟨rfl,h8⟩;have H8:=ac h8.right;clear h8 HBY;go_wp2_with fail;go_ret;rw[← HF9.out,← HA9.out];exact⟨rfl,H8.out⟩
theorem Eg {w0 w:World} {F:SProp} (h:St w0 w F) {Ps:List (List Nat)} {v:Value} (hv:Stb w0 F (fun w=>Reads w 1 v Ps.length (Ps.map aD))) {width:Nat} (h1:1≤width) (hw:width≤400) (hP:∀ P∈Ps,P.length=width∧Bit P) (hN:Ps.length≤100) (al fin:Bool) (every:Int) (hev:1≤every):
  Calls Tryz.prog 28 #[v,.agg #[.bool true,.int .i64 every,.bool al,.bool fin]] w fun e w'=>e= .returned (.string ⟨(aq false (fD width true al fin every (Ps.map ay))).toArray⟩)∧St w0 w' F:=by
 obtain⟨a0,c0,rfl⟩:=(hv w h).sub;have HV:=ac hv;have HP:=ac hP;obtain⟨res,hres⟩:∃ res,dF width true al every 0 [] (Ps.map ay) []=res:=⟨_,rfl⟩;rw[fD,hres];have HRES:=ac hres;clear hres hv hP;have h2:St w0 (w.alloc (.cells #[.bool true,.int .i64 every,.bool al,.bool fin] 63)) (blk w.heap.size (.cells #[.bool true,.int .i64 every,.bool al,.bool fin] 63 (0,0))*F):=h.alloc _;have H:=ac h2;clear h h2;obtain⟨bO,hbO⟩:∃ bO,bO=w.heap.size:=⟨_,rfl⟩;rw[← hbO] at H;go_enter Tryz.func28,Tryz.ntmps28;go_wp2_with fail;rw[← hbO];clear hbO
 go_loopw [5,6] (fun vs vi wr=>∃ (k:Nat) (acc:List Nat),k≤Ps.length∧vi= .int .i64 k∧vs= .string ⟨(tx acc).toArray⟩∧acc.length≤300000*k∧Bit acc∧dF width true al every k (bm Ps k) ((Ps.map ay).drop k) acc=res∧St w0 wr (blk bO (.cells #[.bool true,.int .i64 every,.bool al,.bool fin] 63 (0,0))*F)) (fun _ vi _=>Ps.length-(intOf vi).toNat)
 case atStart=>exact⟨0,[],by omega,rfl,rfl,by simp,jg,HRES.out,H.out⟩
 case round=>
  clear H HRES;obtain⟨k,acc,hk,rfl,rfl,hal,hba,hall,hst⟩:=hrel;have hla:(tx acc).length=acc.length:=by simp
  by_cases hkn:k<Ps.length
  ·have hkl:(k:Int)<Ps.length:=by omega
   obtain⟨g,o,rfl,e1⟩:=(HV.out wr hst.right).at_ hkn;have hx:=ai hkn;rw[au,hx] at e1;simp only[cB,aD] at e1;obtain⟨hPl,hPb⟩:=HP.out _ (bo hkn);have hd:(Ps.map ay).drop k=ay Ps[k]::(Ps.map ay).drop (k+1):=by
    rw[cC (by simpa using hkn),gs]
   have htn:bm Ps (k+1)=ay Ps[k]:=by rw[bm,if_neg (by omega),ld,List.getD_eq_getElem?_getD,hx];rfl
   rw[hd,dF] at hall;have hall:dF width true al every (k+1) (bm Ps (k+1)) ((Ps.map ay).drop (k+1)) (ak true al (fQ true every k) acc++bZ width (fQ true every k) (ay Ps[k]) (bm Ps k))=res:=by rw[htn];exact hall
   have htopk:(bm Ps k).Pairwise (· < ·)∧∀ x∈bm Ps k,x<width:=by
    rw[bm]
    split
    ·exact⟨List.Pairwise.nil,fun x hx=>by cases hx⟩
    ·have hq:k-1<Ps.length:=by omega
     have:=(HP.out _ (bo hq)).1;rw[List.getD_eq_getElem?_getD,ai hq];exact lD this
   have HCE:=ac (fun w' (h:St w0 w' F)=>by
    obtain⟨g2,o2,e2,e3⟩:=(HV.out w' h).at_ hkn;cases e2;rw[au,hx] at e3;exact e3:∀ w',St w0 w' F→w'.cell? ⟨g,o+k,none⟩=some (.string ⟨(tx Ps[k]).toArray⟩))
   have HCQ:=ac (fun(hk0:0<k)=>(fun w' (h:St w0 w' F)=>by
    have hq:k-1<Ps.length:=by omega
    obtain⟨g2,o2,e2,e3⟩:=(HV.out w' h).at_ hq;cases e2;rw[au,ai hq] at e3;exact e3:∀ w',St w0 w' F→w'.cell? ⟨g,o+(k-1),none⟩=some (.string ⟨(tx (Ps[k-1]'(by omega))).toArray⟩)))
   have HQQ:=ac (fun(hk0:0<k)=>(by
    have hq:k-1<Ps.length:=by omega
    have:=HP.out _ (bo hq);refine⟨this.1,this.2,?_⟩;rw[bm,if_neg (by omega),List.getD_eq_getElem?_getD,ai hq];rfl:(Ps[k-1]'(by omega)).length=width∧Bit (Ps[k-1]'(by omega))∧ay (Ps[k-1]'(by omega))=bm Ps k))
   clear hx hd;clear htn;generalize Ps[k]=P at*
   have hev0:¬ every=0:=by omega
   by_cases hz:(k:Int)%every=0
   ·have hsg:fQ true every k=true:=decide_eq_true hz;have hzb:((k:Int)%every==0)=true:=by simpa using hz
    rw[hsg] at hall;clear hsg HCQ HQQ;have HEND:=ac (kO hst true al fin true every (acc:=acc) (by omega) (sb:=⟨(tx acc).toArray⟩) rfl);have hel:=dO true al true acc;have hbE:Bit (ak true al true acc):=kL hba;have c0:=hst.cell 0 rfl;have c1:=hst.cell 1 rfl;have c2:=hst.cell 2 rfl;have c3:=hst.cell 3 rfl;have HBD:=ac (fun(w':World) (G:SProp) (h:St w0 w' G)=>(by have C:=rN h hPb (by omega) (sb:=⟨(tx P).toArray⟩) rfl;rw[rH hPb,hPl,show cE false (bY 0 (ay P) width)=bZ width true (ay P) (bm Ps k) from rfl] at C;exact C));have hbl:=kM (width:=width) (by omega) (s:=true) (oS hPl (by omega)) htopk;have hbb:=rQ width true (ay P) (bm Ps k);have hal3:(ak true al true acc++bZ width true (ay P) (bm Ps k)).length≤300000*(k+1):=by rw[ae];omega
    have HH:=ac (⟨hal3,hbE.append hbb,hall⟩:_∧_∧_);have hlA:(tx (ak true al true acc)).length=(ak true al true acc).length:=by simp
    have hlX:(tx (bZ width true (ay P) (bm Ps k))).length=(bZ width true (ay P) (bm Ps k)).length:=by simp
    have hba2:=ByteArray.mk_append_mk (tx (ak true al true acc)) (tx (bZ width true (ay P) (bm Ps k)));rw[← cZ] at hba2;have HBA:=ac hba2;have hA9:(ak true al true acc).length≤30000100:=by omega
    have hX9:(bZ width true (ay P) (bm Ps k)).length≤290000:=hbl;clear hall hal3 hba hbE hbb hbl hel hba2 hst hPl hPb htopk;generalize ak true al true acc=acc1 at*
    generalize bZ width true (ay P) (bm Ps k)=X at*
    go_wp2_with fail;refine HEND.out.mono ?_;rintro e w5 ⟨rfl,h5⟩;clear HEND c0 c1 c2 c3;have e5:=HCE.out _ h5.right;have HB:=ac (HBD.out _ _ h5);clear h5 HBD;go_wp2_with fail;refine HB.out.mono ?_;rintro e w6 ⟨rfl,h6⟩;have H6:=ac h6;clear h6 HB;go_wp2_with fail;exact⟨⟨k+1,acc1++X,by omega,by go_num,congrArg Value.string HBA.out,HH.out.1,HH.out.2.1,HH.out.2.2,H6.out⟩,by simp [intOf];omega⟩
   ·have hsg:fQ true every k=false:=decide_eq_false hz;have hzb:((k:Int)%every==0)=false:=by simpa using hz
    rw[hsg] at hall;have hk0:0<k:=by
     rcases fM k with h | h
     ·subst h;exact absurd (by simp) hz
     ·exact h
    have HCQ:=ac (HCQ.out hk0);obtain⟨hQl,hQb,hQt⟩:=HQQ.out hk0;have hk1n:k-1<Ps.length:=by omega
    clear hsg HQQ;generalize (Ps[k-1]'(by omega))=Qr at*
    have HEND:=ac (kO hst true al fin false every (acc:=acc) (by omega) (sb:=⟨(tx acc).toArray⟩) rfl);have hel:=dO true al false acc;have hbE:Bit (ak true al false acc):=kL hba;have c0:=hst.cell 0 rfl;have c1:=hst.cell 1 rfl;have c2:=hst.cell 2 rfl;have c3:=hst.cell 3 rfl;have HBD:=ac (fun(w':World) (G:SProp) (h:St w0 w' G)=>(by have C:=wd h hPb hQb (by omega) (by omega) (sb:=⟨(tx P).toArray⟩) (tb:=⟨(tx Qr).toArray⟩) rfl rfl;rw[hPl,hQt,show db (ay P) (bm Ps k) width (width+1) (-1) false=bZ width false (ay P) (bm Ps k) from rfl] at C;exact C));have hbl:=kM (width:=width) (by omega) (s:=false) (oS hPl (by omega)) htopk;have hbb:=rQ width false (ay P) (bm Ps k);have hal3:(ak true al false acc++bZ width false (ay P) (bm Ps k)).length≤300000*(k+1):=by rw[ae];omega
    have HH:=ac (⟨hal3,hbE.append hbb,hall⟩:_∧_∧_);have hlA:(tx (ak true al false acc)).length=(ak true al false acc).length:=by simp
    have hlX:(tx (bZ width false (ay P) (bm Ps k))).length=(bZ width false (ay P) (bm Ps k)).length:=by simp
    have hba2:=ByteArray.mk_append_mk (tx (ak true al false acc)) (tx (bZ width false (ay P) (bm Ps k)));rw[← cZ] at hba2;have HBA:=ac hba2;have hA9:(ak true al false acc).length≤30000100:=by omega
    have hX9:(bZ width false (ay P) (bm Ps k)).length≤290000:=hbl;clear hall hal3 hba hbE hbb hbl hel hba2 hst hPl hPb htopk;generalize ak true al false acc=acc1 at*
    generalize bZ width false (ay P) (bm Ps k)=X at*
    go_wp2_with fail;refine HEND.out.mono ?_;rintro e w5 ⟨rfl,h5⟩;clear HEND c0 c1 c2 c3;have e5:=HCE.out _ h5.right;have e6:=HCQ.out _ h5.right;have HB:=ac (HBD.out _ _ h5.drew);have hk0i:(0:Int)≤(k:Int)-1:=by omega
    have hk1i:(k:Int)-1<Ps.length:=by omega
    have hk1z:(1:Int)≤(k:Int):=by omega
    have hk1t:((k:Int)-1).toNat=k-1:=by omega
    have hkl9:k≤100:=by omega
    have hkw:IntKind.i64.wrap ((k:Int)-1)=(k:Int)-1:=IntWalk.i64_in _ (by omega);clear h5 HBD;go_wp2_with fail;go_region_with (go_at_call 60;refine HB.out.mono ?_;rintro e w6 ⟨rfl,h6⟩;have H6:=ac h6;clear h6 HB)
    all_goals (clear hkw;go_wp2_with fail)
    all_goals exact⟨⟨k+1,acc1++X,by omega,by go_num,congrArg Value.string HBA.out,HH.out.1,HH.out.2.1,HH.out.2.2,H6.out⟩,by simp [intOf];omega⟩
  ·obtain rfl:k=Ps.length:=by omega
   rw[iD (by simp),dF] at hall;subst hall;have ha9:acc.length≤30000000:=by omega
   have c0:=hst.cell 0 rfl;have c1:=hst.cell 1 rfl;have c2:=hst.cell 2 rfl;have c3:=hst.cell 3 rfl;clear hal;cases fin
   ·have HBY:=ac (jW hba false hst (by omega) (s:=⟨(tx acc).toArray⟩) rfl);clear hst hba;go_wp2_with fail;refine HBY.out.mono ?_;rintro e w5 ⟨rfl,h5⟩;have H5:=ac h5.right;clear h5 HBY;go_wp2_with fail;go_ret;exact⟨rfl,H5.out⟩
   ·have HEND:=ac (kO hst true al true true every (acc:=acc) (by omega) (sb:=⟨(tx acc).toArray⟩) rfl);have hel:=dO true al true acc;have hb1:Bit (ak true al true acc):=kL hba;clear hst hba;obtain⟨fin9,hf9⟩:∃ fin9,fin9=jH true al true acc:=⟨_,rfl⟩;have HF9:=ac hf9;have h59:iO true 5 (ak true al true acc)=fin9:=by rw[hf9];rfl
    have hl59:(ak true al true acc).length≤30000100:=by omega
    generalize ak true al true acc=acc1 at*
    have H59:=ac (⟨h59,hb1⟩:_∧_);clear hf9 h59 hb1 hel;go_wp2_with fail;refine HEND.out.mono ?_;rintro e w5 ⟨rfl,h5⟩;have f2:=h5.free 2;have d2:=h5.cell 2 rfl;have h6:=h5.set 2 (.bool false);have h6:St w0 _ (blk bO (.cells #[.bool true,.int .i64 every,.bool false,.bool true] 63 (0,0))*F):=h6;have H6:=ac h6;clear h5 h6 HEND c0 c1 c2 c3;go_wp2_with fail;generalize w5.setCell ⟨bO,2,none⟩ (.bool false)=w6 at*
    clear f2 d2
    go_loopw [5,8] (fun vs vq wr=>∃ (q:Nat) (a:List Nat),q≤5∧vq= .int .i64 q∧vs= .string ⟨(tx a).toArray⟩∧a.length≤30000100+20*q∧Bit a∧iO true (5-q) a=fin9∧St w0 wr (blk bO (.cells #[.bool true,.int .i64 every,.bool false,.bool true] 63 (0,0))*F)) (fun _ vq _=>5-(intOf vq).toNat)
    case atStart=>exact⟨0,acc1,by omega,rfl,rfl,by omega,H59.out.2,H59.out.1,H6.out⟩
    case round=>
     clear H6 H59;obtain⟨q,a,hq,rfl,rfl,hal,hba,hall,hst⟩:=hrel;have hla2:(tx a).length=a.length:=by simp
     by_cases hq5:q<5
     ·have hqi:(q:Int)<5:=by omega
      obtain⟨m,hm⟩:∃ m,5-q=m+1:=⟨4-q,by omega⟩;rw[hm,iO] at hall;have hel:=dO true false true a;have c0:=hst.cell 0 rfl;have c1:=hst.cell 1 rfl;have c2:=hst.cell 2 rfl;have c3:=hst.cell 3 rfl;have HEND:=ac (kO hst true false true true every (acc:=a) (by omega) (sb:=⟨(tx a).toArray⟩) rfl);have HH:=ac (⟨by omega,kL hba,by rw[show 5-(q+1)=m by omega];exact hall⟩:(ak true false true a).length≤30000100+20*(q+1)∧Bit (ak true false true a)∧iO true (5-(q+1)) (ak true false true a)=fin9);clear hst hall hm hel hba;generalize ak true false true a=a2 at*
      go_wp2_with fail;refine HEND.out.mono ?_;rintro e w7 ⟨rfl,h7⟩;have H7:=ac h7;clear h7 HEND c0 c1 c2 c3;go_wp2_with fail;exact⟨⟨q+1,a2,by omega,by go_num,rfl,HH.out.1,HH.out.2.1,HH.out.2.2,H7.out⟩,by simp [intOf];omega⟩
     ·obtain rfl:q=5:=by omega
      rw[du,iO] at hall;have HA9:=ac hall;have HBY:=ac (jW hba false hst (by omega) (s:=⟨(tx a).toArray⟩) rfl);clear hst hall hba;go_wp2_with fail;refine HBY.out.mono ?_;rintro e w8 ⟨rfl,h8⟩;have H8:=ac h8.right;clear h8 HBY;go_wp2_with fail;go_ret;rw[← HF9.out,← HA9.out];exact⟨rfl,H8.out⟩
theorem Eh (w:World) (n:Nat) (hn:n≤1000000):
  Calls Tryz.prog 61 #[.int .i64 (n:Int)] w fun e w'=>e= .returned (.string ⟨(tx (fP n false)).toArray⟩)∧w'=w:=by
 go_enter Tryz.func61,Tryz.ntmps61;go_wp2_with fail
 go_loop [3,4] (fun vs vi=>∃ k:Nat,k≤n∧vs= .string ⟨(tx (fP k false)).toArray⟩∧vi= .int .i64 k) (fun _ vi=>n-(intOf vi).toNat)
 case atStart=>exact⟨0,by omega,rfl,rfl⟩
 case round=>
  obtain⟨k,hk,rfl,rfl⟩:=hrel;have hlx:(tx (fP k false)).length=k:=by simp [fP]
  by_cases hkn:k<n
  ·have hk2:(k:Int)<n:=by omega
   have ht:fP (k+1) false=fP k false++[0]:=ft;have HT:=ac ht;clear ht;generalize fP k false=acc at*
   go_wp2_with fail;refine⟨⟨k+1,by omega,?_,by go_num⟩,by simp [intOf];omega⟩;rw[HT.out,cZ];exact congrArg Value.string (ByteArray.mk_append_mk _ _)
  ·obtain rfl:k=n:=by omega
   go_wp2_with fail;go_ret;exact⟨rfl,rfl⟩
theorem Ei {w0 w:World} {F:SProp} (h:St w0 w F) {Ps:List (List Nat)} {v:Value} (hv:Stb w0 F (fun w=>Reads w 1 v Ps.length (Ps.map aD))) {width:Nat} (h1:1≤width) (hw:width≤400) (hP:∀ P∈Ps,P.length=width∧Bit P) (hN:Ps.length≤100):
  Calls Tryz.prog 29 #[v,.int .i64 (width:Int)] w fun e w'=>e= .returned (.string ⟨(aq false (iM width (Ps.map ay))).toArray⟩)∧St w0 w' F:=by
 obtain⟨a0,c0,rfl⟩:=(hv w h).sub;have HV:=ac hv;have HP:=ac hP;obtain⟨res,hres⟩:∃ res,gG width [] (Ps.map ay)=res:=⟨_,rfl⟩;rw[iM,hres];have HRES:=ac hres;clear hres hv hP;have H:=ac h;clear h;have HWH:=ac (fun w=>Eh w width (by omega));go_enter Tryz.func29,Tryz.ntmps29;go_wp2_with fail;refine(HWH.out _).mono ?_;rintro e w2 ⟨rfl,rfl⟩;go_wp2_with fail
 go_loopw [5,6,7] (fun vs va vi wr=>∃ (k:Nat) (acc Tp:List Nat),k≤Ps.length∧vi= .int .i64 k∧vs= .string ⟨(tx acc).toArray⟩∧va= .string ⟨(tx Tp).toArray⟩∧Tp.length=width∧Bit Tp∧acc.length≤300000*k∧Bit acc∧acc++gG width (ay Tp) ((Ps.map ay).drop k)=res∧St w0 wr F) (fun _ _ vi _=>Ps.length-(intOf vi).toNat)
 case atStart=>exact⟨0,[],fP width false,by omega,rfl,rfl,rfl,by simp [fP],DG _ _,by simp,jg,(by rw[show ay (fP width false)=[] from D8 width];exact HRES.out),H.out⟩
 case round=>
  clear H HRES;obtain⟨k,acc,Tp,hk,rfl,rfl,rfl,hTl,hTb,hal,hba,hall,hst⟩:=hrel;have hla:(tx acc).length=acc.length:=by simp
  by_cases hkn:k<Ps.length
  ·have hkl:(k:Int)<Ps.length:=by omega
   obtain⟨g,o,rfl,e1⟩:=(HV.out wr hst).at_ hkn;have hx:=ai hkn;rw[au,hx] at e1;simp only[cB,aD] at e1;obtain⟨hPl,hPb⟩:=HP.out _ (bo hkn);have hd:(Ps.map ay).drop k=ay Ps[k]::(Ps.map ay).drop (k+1):=by
    rw[cC (by simpa using hkn),gs]
   rw[hd,gG,← List.append_assoc] at hall;have HE:=ac (fun w' (h:St w0 w' F)=>by
    obtain⟨g2,o2,e2,e3⟩:=(HV.out w' h).at_ hkn;cases e2;rw[au,hx] at e3;exact e3:∀ w',St w0 w' F→w'.cell? ⟨g,o+k,none⟩=some (.string ⟨(tx Ps[k]).toArray⟩))
   clear hx hd;generalize Ps[k]=P at*
   have C1:=wd hst hPb hTb (by omega) (by omega) (sb:=⟨(tx P).toArray⟩) (tb:=⟨(tx Tp).toArray⟩) rfl rfl;rw[hPl] at C1;have hbl:=oQ (lD hPl).1 (lD hPl).2 (lD hTl).1 (lD hTl).2 (by omega) (width+1) (-1) false;have hbb:Bit (db (ay P) (ay Tp) width (width+1) (-1) false):=wg _ _ _;generalize db (ay P) (ay Tp) width (width+1) (-1) false=X at*
   have hlx:(tx X).length=X.length:=by simp
   have hl2:(acc++X).length=acc.length+X.length:=ae;have hba2:=ByteArray.mk_append_mk (tx acc) (tx X);rw[← cZ] at hba2;have HH:=ac (⟨by omega,hba.append hbb,hall,hPl,hPb,hba2⟩:(acc++X).length≤300000*(k+1)∧Bit (acc++X)∧(acc++X)++gG width (ay P) ((Ps.map ay).drop (k+1))=res∧P.length=width∧Bit P∧_);have HC1:=ac C1;have hX9:X.length≤300000:=by omega
   have ha9:acc.length≤30000000:=by omega
   clear C1 hall hba hbb hst hPl hPb hTl hTb hbl hl2 hba2 hal;go_wp2_with fail;refine HC1.out.mono ?_;rintro e w2 ⟨rfl,h2⟩;have e5:=HE.out _ h2;have H2:=ac h2;clear h2 HC1;go_wp2_with fail;exact⟨⟨k+1,acc++X,P,by omega,by go_num,congrArg Value.string HH.out.2.2.2.2.2,rfl,HH.out.2.2.2.1,HH.out.2.2.2.2.1,HH.out.1,HH.out.2.1,HH.out.2.2.1,H2.out⟩,by simp [intOf];omega⟩
  ·obtain rfl:k=Ps.length:=by omega
   rw[iD (by simp),gG,bE] at hall;have HRS:=ac hall;have ha9:acc.length≤30000000:=by omega
   have e2:(⟨(tx acc).toArray⟩:ByteArray)++⟨#[48,48,48,48,48,48,48,48,48,48,48,49,48,48,48,48,48,48,48,48,48,48,48,49]⟩=⟨(tx (acc++jh)).toArray⟩:=by
    have e3:(⟨#[48,48,48,48,48,48,48,48,48,48,48,49,48,48,48,48,48,48,48,48,48,48,48,49]⟩:ByteArray)=⟨(tx jh).toArray⟩:=kI (by decide +kernel);rw[e3,cZ];exact ByteArray.mk_append_mk _ _
   have HBY:=ac (jW (hba.append Ea) false hst (by rw[ae,D9];omega) e2);clear hst hall hba e2 hal hTl hTb;go_wp2_with fail;refine HBY.out.mono ?_;rintro e w5 ⟨rfl,h5⟩;have H5:=ac h5;clear h5 HBY;go_wp2_with fail;go_ret;rw[← HRS.out];exact⟨rfl,H5.out⟩
end Go.Proofs.YtboflbdniogcdaaGreatDoor
