/-
  Parts of a proof.
-/
import Derived.Test.YtboflbdniogcdaaGreatDoorK00
import Derived.Test.YtboflbdniogcdaaGreatDoorK41
import Derived.Test.YtboflbdniogcdaaGreatDoorK13
import Derived.Test.YtboflbdniogcdaaGreatDoorK24
import Derived.Test.YtboflbdniogcdaaGreatDoorK39
import Derived.Test.YtboflbdniogcdaaGreatDoorK43
import Derived.Test.YtboflbdniogcdaaGreatDoorK05
import Derived.Test.YtboflbdniogcdaaGreatDoorK25
import Derived.Test.YtboflbdniogcdaaGreatDoorK23
import Derived.Test.YtboflbdniogcdaaGreatDoorK02
import Derived.Test.YtboflbdniogcdaaGreatDoorK07
import Derived.Test.YtboflbdniogcdaaGreatDoorK30
set_option linter.unusedVariables false
set_option linter.unusedSimpArgs false
set_option maxRecDepth 100000
set_option maxHeartbeats 100000000
namespace Go.Proofs.YtboflbdniogcdaaGreatDoor
open Go.RowKit Go.Mz
theorem J2 {width:Nat} (hW:width≤32768) {t Y:List Nat}:∀ (Ps:List (List Nat)) (acc:List Nat) (out:List (List Nat)),(∀ P∈Ps,P.length=width∧Bit P)→acc.length%8=0→encF width (Ps.map af) acc++Y=t→
  bJ t width Ps.length acc.length out= .inl (out++Ps):=by
 intro Ps
 induction Ps with
 | nil=>intro acc out _ _ _;simp [bJ]
 | cons P r ih=>
  intro acc out hP ha ht;obtain⟨hPl,hPb⟩:=hP P (by simp);rw[cO,encF] at ht;obtain⟨X,hX⟩:=EZ width (r.map af) (cJ (acc++bE false (bg 0 (af P) width)));have hd:t.drop acc.length=bE false (bg 0 (af P) P.length)++(List.replicate ((8-(acc++bE false (bg 0 (af P) width)).length%8)%8) 0++(X++Y)):=by
   rw[← ht,hX,cJ,hPl];simp only[List.append_assoc,lO]
  have hpt:acc.length≤t.length:=by
   rw[← ht,hX,cJ];simp only[ae];omega
  have hR:=xM hPb (by omega) hpt hd;rw[hPl] at hR;rw[aO,bJ,hR];simp only;have e:(acc.length+(bE false (bg 0 (af P) width)).length+7)/8*8=(cJ (acc++bE false (bg 0 (af P) width))).length:=by
   rw[s9,ae]
  rw[e,ih _ (out++[P]) (fun Q hQ=>hP Q (by simp [hQ])) (by rw[s9];omega) ht];simp
theorem J3:∀ (L:List Nat) (b:Bool),Bit (bE b L):=by
 intro L
 induction L with
 | nil=>intro b x hx;cases hx
 | cons n r ih=>intro b;rw[bE];exact(pQ b n).append (ih _)
theorem J4 (width:Nat):∀ (L:List (List Nat)) (acc:List Nat),Bit acc→Bit (encF width L acc):=by
 intro L
 induction L with
 | nil=>intro acc h;exact h
 | cons l r ih=>
  intro acc h;rw[encF];refine ih _ ?_;rw[cJ];exact(h.append (J3 _ _)).append (fun x hx=>by rw[uB hx];exact Nat.zero_le _)
theorem J5 {width:Nat} (hw:width≤32768) {Ps:List (List Nat)} (hP:∀ P∈Ps,P.length=width∧Bit P) (more:List UInt8):
  bJ (ag false (az false (encF width (Ps.map af) [])++more)) width Ps.length 0 []= .inl Ps:=by
 have h8:=E0 width (Ps.map af) [] rfl;have ea:cJ (encF width (Ps.map af) [])=encF width (Ps.map af) []:=by rw[cJ,h8];simp
 rw[ke,pZ (J4 width _ _ (fun x hx=>by cases hx)),ea];exact J2 hw Ps [] [] hP rfl rfl
theorem J6 {width:Nat} {two al fin:Bool} {every:Int} (h1:1≤width) (hw:width≤32768) {Ps:List (List Nat)} (hP:∀ P∈Ps,P.length=width∧Bit P) (more:List UInt8):
  i7 (ag false (az false (fe width two al fin every (Ps.map af))++more)) width two Ps.length 0 [] []= .inl Ps:=by
 have e0:af (aT width false)=[]:=xN width;have hb:Bit (fe width two al fin every (Ps.map af)):=Fk (Fj _ _ _ _ (fun x hx=>by cases hx));obtain⟨X,hX⟩:=Fm two al fin (dC width two al every 0 [] (Ps.map af) []);have ht:(ag false (az false (fe width two al fin every (Ps.map af))++more)).drop 0=List.replicate 0 0++((dC width two al every 0 (af (aT width false)) (Ps.map af) []).drop ([]:List Nat).length++(X++(List.replicate ((8-(fe width two al fin every (Ps.map af)).length%8)%8) 0++ag false more))):=by
  rw[mV,ke,pZ hb,cJ,e0];generalize (8-(fe width two al fin every (Ps.map af)).length%8)%8=pd
  conv=>lhs;rw[fe,hX]
  simp only[List.append_assoc,bI,mV,oJ,bH]
 have:=Fp h1 hw Ps 0 0 (aT width false) 0 [] _ [] hP (by simp [aT]) (Nat.zero_le _) ht;rw[e0,bH] at this;exact this
theorem J7 {P:List Nat} {W:Nat} (hb:Bit P) (hP:P.length=W):af ((ag false (az false P)).take W)=af P:=by
 rw[pZ hb,cJ,mW hP]
theorem J8 {Ps:List (List Nat)} {W:Nat} (hP:∀ P∈Ps,P.length=W∧Bit P):cB W (Ps.map (az false))=Ps.map af:=by
 rw[cB,eU];exact lQ fun P h=>J7 (hP P h).2 (hP P h).1
theorem J9 (J:List UInt8) (t:List UInt8):∃ r,az false (cf J)++t=(128:UInt8)::r:=by
 have e:cf J=aE 256 9++Go.Mz.encF bz gG none J:=rfl;have hlen:9≤(cf J).length:=by rw[e,ae,dh];omega
 have h0:(az false (cf J))[0]? =some 128:=by
  rw[kh _ _ _ (by omega)];have:byteB false (cf J) 0=128:=by
   have e2:byteB false (aE 256 9) 0=128:=by decide
   rw[← e2,byteB,byteB];refine jo _ _ fun j hj=> ?_
   rw[e];simp only[List.getD_eq_getElem?_getD];rw[bK (by rw[dh];omega)]
  rw[this];rfl
 cases hb:az false (cf J) with
 | nil=>rw[hb] at h0;cases h0
 | cons c r=>
  rw[hb] at h0;cases h0;exact⟨_,rfl⟩
theorem Ka {w:World} {v:Value} {r:List UInt8} (hr:Reads w 1 v ((128:UInt8)::r).length (((128:UInt8)::r).map bv)):
  Calls Tryz.prog 70 #[v] w fun e w'=>e= .returned (.bool false)∧w'=w:=by
 obtain⟨a,c,rfl⟩:=hr.sub;obtain⟨b,off,rfl,hc⟩:=hr.at_ (show 0<((128:UInt8)::r).length by simp);have hc:w.cell? ⟨b,off,none⟩=some (.int .u8 128):=hc;obtain⟨n,hn⟩:∃ n,((128:UInt8)::r).length=n:=⟨_,rfl⟩;have hn1:1≤n:=by rw[← hn];simp
 rw[hn];clear hr hn
 by_cases h2:2≤n
 ·have h2I:(2:Int)≤n:=by omega
  go_enter Tryz.func70,Tryz.ntmps70;go_wp2_with fail;go_ret;exact⟨rfl,rfl⟩
 ·have h2I:¬ (2:Int)≤n:=by omega
  go_enter Tryz.func70,Tryz.ntmps70;go_wp2_with fail;go_ret;exact⟨by simp,rfl⟩
theorem Kb {w0 w:World} {F:SProp} (h:St w0 w F) {L:List (List UInt8)} {z t:List UInt8} {v:Value} (hv:Stb w0 F (fun w=>Reads w 1 v (z++t).length ((z++t).map bv))) (hl:(z++t).length≤1000000000) (hz:PbRows L z) {size:Nat} (hs1:1≤size) (hsz:∀ X∈L,X.length=size) (hs:size≤1000000) (hN:L.length≤1000):
  Calls Tryz.prog 69 #[v,.int .i64 (L.length:Int),.int .i64 (size:Int)] w fun e w'=>∃ v',e= .returned (.tuple #[v',.int .i64 0])∧St w0 w' (own 5 1 v' (aK L).length ((aK L).map bv)*F):=by
 have hJ:(aK L).length=L.length*size:=by
  clear hz hv hN
  induction L with
  | nil=>simp [aK]
  | cons X r ih=>
   have:=ih (fun Y hY=>hsz Y (by simp [hY]));have e:=hsz X (by simp);simp only[aK,oH,ae,aO] at*
   rw[this,e,dF];omega
 have hJb:(aK L).length≤1000000000:=by rw[hJ];exact dL (eS hN hs) (by decide)
 obtain⟨a0,c0,rfl⟩:=(hv w h).sub;obtain⟨nl,hnl⟩:∃ nl,L.length=nl:=⟨_,rfl⟩;obtain⟨tl,htl⟩:∃ tl,(z++t).length=tl:=⟨_,rfl⟩;rw[htl] at hv hl ⊢;rw[hnl] at hN ⊢;obtain⟨J,hJJ⟩:∃ J,aK L=J:=⟨_,rfl⟩;rw[hJJ] at hJb ⊢;have HNL:=ac hnl;have HTL:=ac htl;have HJ:=ac hJJ;have HV:=ac hv;have HZ:=ac hz;have HSZ:=ac hsz;have H:=ac h;clear h hv hz hsz hJ hJJ hnl htl;have T:=cP;go_enter Tryz.func69,Tryz.ntmps69;go_wp2_with fail;have h1:=H.out.lit #[] 5 0 rfl (by decide);have H1:=ac (show St w0 _ (own 5 1 (.slice (some ⟨w.heap.size,0,none⟩) 0 0) 0 []*F) from h1);clear h1;generalize w.heap.size=g0 at*
 go_loopw [0,8,14] (fun v0 vo vi wr=>∃ (k m ol:Nat) (Z:List UInt8) (a ao:Option Addr) (c co:Nat),v0= .slice a m c∧vo= .slice ao ol co∧vi= .int .i64 k∧k≤nl∧m≤tl∧ol≤J.length∧RowKit.Hid (PbRows (L.drop k) Z∧(Z++t).length=m∧(aK (L.take k)).length=ol)∧RowKit.Hid (Stb w0 F (fun w=>Reads w 1 (.slice a m c) m ((Z++t).map bv)))∧St w0 wr (own 5 1 (.slice ao ol co) ol ((aK (L.take k)).map bv)*F)) (fun _ _ vi _=>nl-(intOf vi).toNat)
 case atStart=>exact⟨0,tl,0,z,a0,_,c0,0,rfl,rfl,rfl,Nat.zero_le _,Nat.le_refl _,Nat.zero_le _,ac ⟨HZ.out,HTL.out,rfl⟩,HV,H1.out⟩
 case round=>
  clear H1 H HV HZ;obtain⟨k,m,ol,Z,a,ao,c,co,rfl,rfl,rfl,hk,hm,hol,hQ,HR,hst⟩:=hrel
  by_cases hkn:k<nl
  ·have hkI:(k:Int)<nl:=by omega
   have hkL:k<L.length:=by rw[HNL.out];exact hkn
   have hq:=hQ.out;rw[dX hkL] at hq;obtain⟨X,hX⟩:∃ X,L[k]? =some X:=⟨_,au hkL⟩;have hXe:L[k]=X:=by rw[au hkL] at hX;exact fv hX
   rw[hXe] at hq;have hXs:X.length=size:=HSZ.out X (aI hX);obtain⟨hp,hml,hoL⟩:=hq;obtain⟨y,Z',hZe,hb,hr⟩:∃ y Z',Z=y++Z'∧PbS X y∧PbRows (L.drop (k+1)) Z':=by
    cases hp with
    | cons h1 h2=>exact⟨_,_,rfl,h1,h2⟩
   subst hZe;have HD:=ac (Dm hst (b:=X) (z:=y) (t:=Z'++t) (v:= .slice a m c) (fun w h=>by
    have:=HR.out w h.right;rw[← List.append_assoc,hml];exact this) (by rw[← List.append_assoc,hml];omega) hb (by omega))
   rw[hXs] at HD;obtain⟨yl,hyl⟩:∃ yl,y.length=yl:=⟨_,rfl⟩;rw[hyl] at HD;have hym:yl≤m:=by rw[← hml,← hyl];simp only[ae];omega
   have hy1:1≤yl:=by
    rcases bV 0 yl with h | h
    ·exact h
    ·exfalso;have e0:y=[]:=bG (by omega);have e1:X=[]:=by
      rcases hb.cases3 with ⟨h1,_⟩ | ⟨n,c,r',z',_,_,_,_,h2⟩ | ⟨l,r',z',_,_,_,_,h2⟩
      ·exact h1
      ·rw[e0] at h2;cases h2
      ·rw[e0] at h2;cases h2
     rw[e1] at hXs;simp at hXs;omega
   have hm0:0<m:=by omega
   obtain⟨b,off,e,_⟩:=(HR.out _ hst.right).at_ hm0;cases e;have hcap:=(iq (HR.out _ hst.right)).1;have HR2:=ac (fun w h=>by
    have h2:=mg (HR.out w h) hml hym;rw[List.append_assoc,uy hyl] at h2;exact h2)
   have HTK:=ac (show aK (L.take (k+1))=aK (L.take k)++X by
    rw[jq hX,aK,oI,aK];simp)
   have hle2:ol+size≤J.length:=by
    have h1:=te (L:=L) (k+1);rw[HTK.out,ae,hoL,hXs,HJ.out] at h1;exact h1
   have hQN:=ac (show PbRows (L.drop (k+1)) Z'∧(Z'++t).length=m-yl∧(aK (L.take (k+1))).length=ol+size from⟨hr,by
    have:=hml;simp only[ae] at this ⊢;omega,by rw[HTK.out,ae,hoL,hXs]⟩)
   have HXS:=ac hXs;have hymI:(yl:Int)≤m:=by omega
   have hycI:(yl:Int)≤c:=by omega
   have HST:=ac hst;clear hst hQ hp hml hoL hX hXe hXs hb hr hyl hcap;go_wp2_with (first | (at_builtin;apply ap) | (go_at_call 118;refine HD.out.mono ?_;rintro e w2 ⟨v2,rfl,h2⟩;obtain⟨a2,c2,rfl⟩:=h2.reads.sub;have H2:=ac h2;clear h2 HD));refine on (aG T rfl _ _ rfl rfl (H2.out.perm (ak _ _ _)) rfl H2.out.reads (dN X) (by unfold maxLen;omega) (by omega) ?_);intro v3 w3 h3 _;rw[← List.map_append,← HTK.out] at h3;obtain⟨a3,c3,rfl⟩:=h3.reads.sub;have H3:=ac ((h3.perm (ak _ _ _)).right);clear h3 H2 HST;go_wp2_with fail;exact⟨⟨k+1,m-yl,ol+size,Z',_,a3,c-yl,c3,rfl,rfl,by go_num,by omega,by omega,hle2,hQN,HR2,H3.out⟩,by simp [intOf];omega⟩
  ·obtain rfl:k=nl:=by omega
   have hq:=hQ.out.2.2;rw[← HNL.out,cS,HJ.out] at hq;have hs:=hst;rw[← HNL.out,cS,HJ.out,← hq] at hs;have HST:=ac hs;have hq2:=hq.symm;clear hst hs hq;go_wp2_with fail;go_ret2;subst hq2;exact⟨_,rfl,HST.out⟩
def UntOut (w0:World) (E F:SProp) (J:List UInt8) (e:Ending) (w':World):Prop:=
 ∃ v' G,e= .returned (.tuple #[v',.int .i64 0])∧St w0 w' (G*(E*F))∧Stb w0 (G*F) (fun w=>Reads w 1 v' J.length (J.map bv))
theorem UntOut.of_own {w0:World} {E F G:SProp} {J:List UInt8} {v':Value} {w':World} (h:St w0 w' (own 5 1 v' J.length (J.map bv)*(G*(E*F)))):UntOut w0 E F J (.returned (.tuple #[v',.int .i64 0])) w':=
 ⟨v',own 5 1 v' J.length (J.map bv)*G,rfl,h.perm (aW _ _ _).symm,fun w h=>(h.perm (aW _ _ _)).reads⟩
theorem UntOut.of_own2 {w0:World} {E F A B:SProp} {J:List UInt8} {v':Value} {w':World} (h:St w0 w' (own 5 1 v' J.length (J.map bv)*(A*(B*(E*F))))):UntOut w0 E F J (.returned (.tuple #[v',.int .i64 0])) w':=
 UntOut.of_own (G:=A*B) (h.perm (by rw[aW A B (E*F)]))
theorem UntOut.of_own4 {w0:World} {E F A B C D:SProp} {J:List UInt8} {v':Value} {w':World} (h:St w0 w' (own 5 1 v' J.length (J.map bv)*(A*(B*(C*(D*(E*F))))))):UntOut w0 E F J (.returned (.tuple #[v',.int .i64 0])) w':=
 UntOut.of_own (G:=A*(B*(C*D))) (h.perm (by simp only[aW]))
theorem Kc {w:World} {a:Option Addr} {n c k:Nat} {bs:List UInt8} (h:Reads w 1 (.slice a n c) n (bs.map bv)) (hk:k≤n):Reads w 1 (.slice a k c) k ((bs.take k).map bv):=by
 cases a with
 | some x=>
  have:=kg h (Nat.zero_le k) hk;rw[mV,← jI] at this;have e2:x.add 0=x:=by simp [Addr.add]
  rw[e2] at this;simpa only[rc] using this
 | none=>
  obtain⟨hl,⟨e1,e2⟩ | ⟨x,cap,e1,_⟩⟩:=h
  ·cases e1;obtain rfl:k=0:=by omega
   exact m9 _ _
  ·cases e1
theorem Kd {w0 w:World} {E F:SProp} (h:St w0 w (E*F)) (htab:dA w0 F) {o o2:Opt} (hsc:o2.scheme=o.scheme) (htw:o2.two=o.two) {W H size:Nat} {L:List (List UInt8)} {z t:List UInt8} (hz:TellS o W L z) (hW1:1≤W) (hW:W≤400) (hH1:1≤H) (hH:H≤300) (hs1:1≤size) (hS:size≤1000000)
  (hLH:L.length=H) (hLs:∀ X∈L,X.length=size) (hfx:o.scheme=2∨o.scheme=3∨o.scheme=4→∃ Ps:List (List Nat),L=Ps.map (az false)∧∀ P∈Ps,P.length=W∧Bit P) (hJ2:(aK L).length≤1000000)
  {vb:Value} (hb:Stb w0 F (fun w=>Reads w 1 vb (z++t).length ((z++t).map bv))) (hl:(z++t).length≤100000000) (hl2:o.scheme=2→(z++t).length≤1000000) {pper pwide:Int} {pv:Value}:
  Calls Tryz.prog 34 #[vb,.agg #[.int .i64 (W:Int),.int .i64 (H:Int),.int .i64 pper,.int .i64 pwide,pv],o2.v,.int .i64 (size:Int)] w fun e w'=>UntOut w0 E F (aK L) e w':=by
 have hJ:size*H=(aK L).length:=by rw[mL hLs,hLH,iM]
 have hJ1:1≤(aK L).length:=by rw[← hJ];exact eS hs1 hH1
 have hnI:(size:Int)*(H:Int)=((aK L).length:Int):=by rw[← hJ];simp
 obtain⟨big,large,tiled,ow,oh,planar,scheme,predict,low,two,every,al,fin,how⟩:=o2;simp only at hsc htw;simp only[Opt.v];have h3:=fD h (.cells #[.int .i64 (W:Int),.int .i64 (H:Int),.int .i64 pper,.int .i64 pwide,pv] 24) (.cells #[.bool big,.bool large,.bool tiled,.int .i64 ow,.int .i64 oh,.bool planar,.int .i64 scheme,.bool predict,.bool low,.bool two,.int .i64 every,.bool al,.bool fin,.int .i64 how] 28);have f6:=h3.cell 6 rfl;have f9:=h3.cell 9 rfl;have k0:=h3.right.cell 0 rfl;have k1:=h3.right.cell 1 rfl;have HB:=ac hb;obtain⟨a0,c0,rfl⟩:=(hb w h.right).sub;obtain⟨B1,hB1⟩:∃ X,X=blk (w.heap.size+1) (.cells #[.bool big,.bool large,.bool tiled,.int .i64 ow,.int .i64 oh,.bool planar,.int .i64 scheme,.bool predict,.bool low,.bool two,.int .i64 every,.bool al,.bool fin,.int .i64 how] 28):=⟨_,rfl⟩;rw[← hB1] at h3;have H3:=ac h3;clear h3 hJ hB1;obtain⟨J,hJE⟩:∃ J,aK L=J:=⟨_,rfl⟩;unfold TellS at hz;rw[hJE] at hz hJ1 hJ2 hnI ⊢;obtain⟨jl,hjl⟩:∃ jl,J.length=jl:=⟨_,rfl⟩;have HJL:=ac hjl;obtain⟨tl,htl⟩:∃ tl,(z++t).length=tl:=⟨_,rfl⟩
 rcases hz with ⟨e,hzE⟩ | ⟨e,hzE⟩ | ⟨e | e,hw,x,_,hd,_,hzE⟩ | ⟨e,hz⟩ | ⟨e,hzE⟩ | ⟨e,hzE⟩ | ⟨e,hzE⟩ <;> (rw[e] at hsc;subst hsc)
 ·subst hzE;have hle:z.length≤(z++t).length:=by rw[ae];omega
  obtain⟨b,off,e,_⟩:=(hb w h.right).at_ (show 0<(z++t).length by omega);cases e;have hcap:=(iq (hb w h.right)).1;have HR:=ac (fun w h=>show Reads w 1 (.slice (some ⟨b,off,none⟩) z.length c0) z.length (z.map bv) by
   have:=Kc (HB.out w h) hle;rwa [lH] at this)
  rw[htl] at hle hl hcap HB ⊢;have hltI:¬ (tl:Int)<jl:=by omega
  have hcI:(jl:Int)≤c0:=by omega
  rw[hjl] at hnI HR;clear h hb htl hjl hJ1 hJ2 hle htw hfx hl2 hLs hLH hJE;go_enter Tryz.func34,Tryz.ntmps34;go_wp2_with fail;go_ret2;exact⟨_,_,rfl,H3.out.perm (aW _ _ _).symm,fun w h=>by rw[HJL.out];exact HR.out _ h.right⟩
 ·have hD:=(Cg J (Ck J t) J.length).2.2 rfl;obtain⟨r,hr⟩:=J9 J t;rw[← hzE] at hD hr;have HOLD:=ac (fun w (h:St w0 w F)=>Ka (w:=w) (r:=r) (v:= .slice a0 (z++t).length c0) (by have:=HB.out w h;rw[← hr];exact this));have C:=J1 H3.out (z++t) (((hb.more _).more _).more _) (by omega) (J.length:Int) (by omega);rw[hD] at C;have HU:=ac C;rw[htl] at HU HOLD ⊢;rw[hjl] at hnI HU hJ2;clear h hb hJ1 C hzE hD htl hr hjl htw hfx hl2 hLs hLH hJE;go_enter Tryz.func34,Tryz.ntmps34;go_wp2_with (first | (go_at_call 72;refine HU.out.mono ?_;rintro e w2 ⟨v2,rfl,h2⟩;have H2:=ac h2;clear h2 HU) | (go_at_call 70;refine(HOLD.out _ H3.out.right.right.right).mono ?_;rintro e w1 ⟨rfl,rfl⟩));go_ret2;exact UntOut.of_own2 (by rw[HJL.out];exact H2.out)
 iterate 2
  ·obtain⟨nn,hdn⟩:=hd.done;have hz:=JG hdn (S:=ej true (eV J) 4) (kX true _ 4) t (J.length:Int);rw[if_neg (by omega),if_neg (by simp),if_neg (by rw[z8 (na J)];simp),show oA x (ej true (eV J) 4)=z from hzE.symm] at hz;have C:=JC H3.out (z++t) (J.length:Int) (by omega) (by omega) (((hb.more _).more _).more _);rw[hz] at C;have HU:=ac C;rw[htl] at HU ⊢;rw[hjl] at hnI HU hJ2;clear h hb hJ1 C hzE hz hdn hd htl hjl htw hfx hl2 hLs hLH hJE;go_enter Tryz.func34,Tryz.ntmps34;go_wp2_with (go_at_call 73;refine HU.out.mono ?_;rintro e w2 ⟨v2,n2,x2,rfl,hn2,hx2,h2⟩;subst hx2;rw[HJL.out] at h2;obtain⟨a2,c2,rfl⟩:=h2.reads.sub;have H2:=ac h2;clear h2 HU);go_ret2;exact UntOut.of_own2 (by rw[HJL.out];exact H2.out)
 ·have HU:=ac (Kb H3.out (t:=t) (((hb.more _).more _).more _) (by omega) hz hs1 hLs (by omega) (by omega));rw[hJE,hLH,htl] at HU;rw[htl];rw[hjl] at hnI;clear h hb hz hJ1 hJ2 htl hjl htw hfx hl2 hLs hLH hJE;go_enter Tryz.func34,Tryz.ntmps34;go_wp2_with (go_at_call 69;refine HU.out.mono ?_;rintro e w2 ⟨v2,rfl,h2⟩;have H2:=ac h2;clear h2 HU);go_ret2;exact UntOut.of_own2 H2.out
 all_goals
  obtain⟨Ps,hL,hPs⟩:=hfx (by omega);rw[hL,J8 hPs] at hzE;have hPl:Ps.length=H:=by rw[← hLH,hL,bS]
  have hJe:aK (Ps.map (az false))=J:=by rw[← hJE,hL]
 have C:=Ez H3.out (fun w h=>htab w h.right.right.right) (((hb.more _).more _).more _) (hl2 e) hW1 (by omega) (N:=Ps.length) (by omega);rw[hzE,J5 (by omega) hPs t,← hzE,hPl] at C;have HU:=ac C;rotate_left;have C:=Fu H3.out (fun w h=>htab w h.right.right.right) (((hb.more _).more _).more _) (by omega) two hW1 (by omega) (N:=Ps.length) (by omega);rw[hzE,htw,J6 hW1 (by omega) hPs t,← hzE,← htw,hPl] at C;have HU:=ac C;rotate_left;have C:=Fh H3.out (fun w h=>htab w h.right.right.right) (((hb.more _).more _).more _) (by omega) hW1 (by omega) (N:=Ps.length) (by omega);rw[hzE,((Fe hW1 (by omega) hPs t Ps.length).1 (Nat.le_refl _)).trans (by rw[cS]),← hzE,hPl] at C;have HU:=ac C;rotate_left
 all_goals
  have HPs:=ac hPs;have HPL:=ac hPl;have HJE:=ac hJe;have HRW:=ac (fun(G:SProp) (w:World) (h:St w0 w G) (P:List Nat) (hP:P∈Ps) (v:Value) (hv:Stb w0 G (fun w=>Reads w 1 v (af P).length ((af P).map nv)))=>EV h (hPs P hP).2 (hPs P hP).1 (by omega) hv);rw[htl] at HU ⊢;rw[hjl] at hnI hJ2;clear h hb hJ1 C hzE htl hjl htab hPs hPl hJe hfx hL hLH hLs hJE hl2 htw HB e;have T:=cP;go_enter Tryz.func34,Tryz.ntmps34;go_wp2_with ((first | go_at_call 74 | go_at_call 75 | go_at_call 76);refine HU.out.mono ?_;rintro e w2 ⟨v2,R,rfl,hR,h2⟩;have hRm:R.map Prod.snd=Ps.map af:=hR;clear hR;obtain⟨a2,c2,rfl⟩:=h2.reads.sub;have HRM:=ac hRm;have H2:=ac h2;have k0:=h2.right.right.right.cell 0 rfl;clear h2 HU hRm f6 f9 k1 H3);have h1':=H2.out.lit #[] 5 0 rfl (by decide);have k0':=h1'.right.right.right.right.cell 0 rfl;have hRl:R.length=Ps.length:=by have:=congrArg List.length HRM.out;simpa using this
  obtain⟨nr,hnr⟩:∃ nr,R.length=nr:=⟨_,rfl⟩;rw[hnr] at h1' H2 hRl ⊢;have HNR:=ac hnr;have HRL:=ac hRl;have hnrb:nr≤1000:=by rw[hRl,HPL.out];omega
  have H1:=ac h1';clear h1' hnr hRl k0 H2;generalize w2.heap.size=g0 at*
  generalize w.heap.size=gp at*
  have HJS:=ac (fun k=>te (L:=Ps.map (az false)) k)
  go_loopw [16,118] (fun vo vi wr=>∃ (k ol:Nat) (ao:Option Addr) (co:Nat),k≤nr∧ol≤1000000∧vi= .int .i64 k∧vo= .slice ao ol co∧RowKit.Hid ((aK ((Ps.take k).map (az false))).length=ol)∧St w0 wr (own 5 1 (.slice ao ol co) ol ((aK ((Ps.take k).map (az false))).map bv)*(own 79 1 (.slice a2 nr c2) nr (R.map Prod.fst)*(aQ R*(B1*(blk gp (.cells #[.int .i64 (W:Int),.int .i64 (H:Int),.int .i64 pper,.int .i64 pwide,pv] 24)*(E*F))))))) (fun _ vi _=>nr-(intOf vi).toNat)
  case atStart=>exact⟨0,0,_,0,Nat.zero_le _,Nat.zero_le _,rfl,rfl,ac rfl,H1.out⟩
  case round=>
   clear H1 k0';obtain⟨k,ol,ao,co,hk,hol,rfl,rfl,hQ,hst⟩:=hrel
   by_cases hkn:k<nr
   ·have hkI:(k:Int)<nr:=by omega
    have hkR:k<R.length:=by rw[HNR.out];exact hkn
    have hkP:k<Ps.length:=by rw[← HRL.out];exact hkn
    obtain⟨x,hx⟩:∃ x,R[k]? =some x:=⟨R[k],au hkR⟩;obtain⟨P,hP⟩:∃ P,Ps[k]? =some P:=⟨Ps[k],au hkP⟩;obtain⟨b,off,ee,hc⟩:=(hst.right.reads).at_ hkn;cases ee;rw[aC,hx] at hc;obtain⟨vx,X⟩:=x;simp only[b7] at hc;have hXP:X=af P:=by
     have e1:(R.map Prod.snd)[k]? =some X:=by rw[aC,hx];rfl
     rw[HRM.out,aC,hP] at e1;exact(fv e1).symm
    have hrd:=fun w (h:St w0 w (own 5 1 (.slice ao ol co) ol ((aK ((Ps.take k).map (az false))).map bv)*(own 79 1 (.slice (some ⟨b,off,none⟩) nr c2) nr (R.map Prod.fst)*(aQ R*(B1*(blk gp (.cells #[.int .i64 (W:Int),.int .i64 (H:Int),.int .i64 pper,.int .i64 pwide,pv] 24)*(E*F)))))))=>nN R _ h.right.right _ (aI hx)
    simp only at hrd;rw[hXP] at hrd;have HX:=ac (HRW.out _ _ hst P (aI hP) vx hrd);obtain⟨ax,cx,rfl⟩:=(hrd _ hst).sub;have k0:=hst.right.right.right.right.cell 0 rfl;have HTK:=ac (show aK ((Ps.take (k+1)).map (az false))=aK ((Ps.take k).map (az false))++az false P by
     rw[jq hP,List.map_append,aK,oI,aK];simp)
    have hlP:(az false P).length=(W+7)/8:=by rw[dq,(HPs.out P (aI hP)).1]
    obtain⟨n8,hn8⟩:∃ n8,(W+7)/8=n8:=⟨_,rfl⟩;rw[hn8] at HX hlP;have hle:ol+n8≤1000000:=by
     have e1:=HJS.out (k+1);rw[← jI,HTK.out,ae,hQ.out,hlP,HJE.out,HJL.out] at e1;omega
    have HBO:=ac (dN (az false P));have HLN:=ac (show(aK ((Ps.take (k+1)).map (az false))).length=ol+n8 by rw[HTK.out,ae,hQ.out,hlP]);generalize af P=C at*
    obtain⟨cl,hcl⟩:∃ n,C.length=n:=⟨_,rfl⟩;rw[hcl] at HX hc;clear hx hst hrd hlP hn8 hXP hcl hP;go_wp2_with (first | (at_builtin;apply ap) | (go_at_call 77;refine HX.out.mono ?_;rintro e w3 ⟨v3,rfl,h3⟩;obtain⟨a3,c3,rfl⟩:=h3.reads.sub;have H3:=ac h3;clear h3 HX k0));refine on (aG T rfl _ _ rfl rfl (H3.out.perm (ak _ _ _)) rfl H3.out.reads HBO.out (by unfold maxLen;omega) (by omega) ?_);intro v4 w4 h4 _;rw[← List.map_append,← HTK.out] at h4;obtain⟨a4,c4,rfl⟩:=h4.reads.sub;have H4:=ac ((h4.perm (ak _ _ _)).right);clear h4 H3;go_wp2_with fail;exact⟨⟨k+1,ol+n8,a4,c4,by omega,hle,by go_num,rfl,HLN,H4.out⟩,by simp [intOf];omega⟩
   ·obtain rfl:k=nr:=by omega
    have hs:=hst;have hq:=hQ.out;rw[HRL.out,cS,HJE.out] at hs hq;rw[← HRL.out] at hs;have hq2:=hq.symm;subst hq2;have HST:=ac hs;clear hst hs;go_wp2_with fail;go_ret2;exact UntOut.of_own4 HST.out
theorem Ke {o:Opt} {per wide:Int} (h:o.legal per wide=true):({ o with how:=0,every:=1 }:Opt).legal per wide=true:=by
 simp only[Opt.legal,js,cR] at h ⊢;obtain⟨⟨⟨⟨⟨⟨⟨⟨⟨h1,h2⟩,h3⟩,h4⟩,h5⟩,h6⟩,h7⟩,h8⟩,h9⟩,h10⟩:=h;exact⟨⟨⟨⟨⟨⟨⟨⟨⟨h1,h2⟩,h3⟩,h4⟩,h5⟩,h6⟩,by simp⟩,h8⟩,h9⟩,by simp⟩
theorem Kf (c:UInt8):db (db c)=c:=by
 have h:∀ k:Fin 256,db (db (UInt8.ofNat k.val))=UInt8.ofNat k.val:=by decide +kernel
 have:=h ⟨c.toNat,bR c⟩;simpa using this
theorem Kg (z:List UInt8):(z.map db).map db=z:=by
 rw[eU]
 conv=>rhs;rw[← List.map_id z]
 exact lQ fun c _=>Kf c
theorem Kh {L:List (List UInt8)} {c:Nat} (h:∀ X∈L,X.length=c) {y:Nat} {X:List UInt8} (hX:L[y]? =some X):((aK L).drop (y*c)).take c=X:=by
 have hy:y<L.length:=by
  rcases bV y L.length with h | h
  ·exact h
  ·rw[bh h] at hX;cases hX
 have e:L=L.take y++(X::L.drop (y+1)):=by
  have h2:=(ez y L).symm;rw[dX hy] at h2;rw[au hy] at hX;cases hX;exact h2
 have hl:(aK (L.take y)).length=y*c:=by
  rw[mL (fun Z hZ=>h Z (jf hZ)),aL];congr 1;omega
 conv=>lhs;rw[e]
 rw[aK] at hl ⊢;rw[oI,oH,uy hl,mW (h X (aI hX))]
theorem Ki {predict big:Bool} {wide per n H:Nat} {l:List Nat} {y:Nat} (hy:y<H):(dH predict big wide per n l H)[y]? =some (jr predict big wide per (di l n y)):=by
 rw[dH,aC,dW hy];rfl
def Kj (w0:World) (F:SProp) (W H per wide:Nat) (l:List Nat) (e:Ending) (w':World):Prop:=
 ∃ v',e= .returned (.tuple #[jO W H per wide v',.int .i64 0])∧St w0 w' (own 48 1 v' l.length (l.map uv)*F)
abbrev pC (W H per wide:Nat) (v:Value):Obj:= .cells #[.int .i64 (W:Int),.int .i64 (H:Int),.int .i64 (per:Int),.int .i64 (wide:Int),v] 24
abbrev rC:Obj:= .cells #[.int .i64 0,.int .i64 0,.int .i64 0,.int .i64 0,.slice none 0 0] 24
theorem Ag {w0 w:World} {F:SProp} (h:St w0 w F) (htab:dA w0 F) {l:List Nat} {W H per wide:Nat} (hl:H*(W*per)=l.length) (hl2:l.length≤2000) (hW:W≤400) (hH:H≤300) (hall:∀ x∈l,x<2^wide) (o:Opt)
  (hcan:fs W H per=true) (hleg:o.legal per wide=true) {z t:List UInt8} (hz:TellS o W (dH o.predict o.big wide per (W*per) l H) z) (hl9:(z++t).length≤100000000) (hl92:o.scheme=2→(z++t).length≤1000000) {vb vp:Value}
  (hb:Stb w0 F (fun w=>Reads w 1 vb ((if o.low=true then z.map db else z)++t).length (((if o.low=true then z.map db else z)++t).map bv))):
  Calls Tryz.prog 14 #[vb,jO W H per wide vp,o.v] w fun e w'=>Kj w0 F W H per wide l e w':=by
 obtain⟨g1,g2,g3,g4,g5,g6,g7,g8,g9⟩:=qQ hleg;have hW1:1≤W:=by simp [fs] at hcan;omega
 have hH1:1≤H:=by simp [fs] at hcan;omega
 have hper:1≤per∧per≤8:=by omega
 have hwd:1≤wide∧wide≤32:=by omega
 have HC:=ac (fun w=>ug (W:Int) (H:Int) (per:Int) w);rw[hcan] at HC;have HLG:=ac (fun(G:SProp) (w:World) (h:St w0 w G)=>pB h { o with how:=0,every:=1 } (per:Int) (wide:Int));rw[Ke hleg] at HLG;have hn1:1≤W*per:=eS hW1 hper.1;have hnb:W*per≤3200:=eS hW hper.2;have hb1:W*per*wide≤102400:=eS hnb hwd.2;have hmem:=mM (predict:=o.predict) (big:=o.big) (wide:=wide) (per:=per) hl;have hLH:=lE o.predict o.big wide per (W*per) H l;have hJl:(aK (dH o.predict o.big wide per (W*per) l H)).length=H*((W*per*wide+7)/8):=by rw[mL hmem,hLH]
 have hJ2:(aK (dH o.predict o.big wide per (W*per) l H)).length≤1000000:=by
  rw[hJl];have e1:H*((W*per*wide+7)/8)≤H*(4*(W*per)+1):=jm _ (by have:W*per*wide≤W*per*32:=jm _ (by omega);omega);have e2:H*(4*(W*per)+1)=4*(H*(W*per))+H:=by rw[m3,m4];omega
  omega
 have hs1:1≤(W*per*wide+7)/8:=by have:1≤W*per*wide:=eS hn1 hwd.1;omega
 have hsb:(W*per*wide+7)/8≤1000000:=by omega
 have hfx:o.scheme=2∨o.scheme=3∨o.scheme=4→∃ Ps:List (List Nat),dH o.predict o.big wide per (W*per) l H=Ps.map (az false)∧∀ P∈Ps,P.length=W∧Bit P:=by
  intro hs;obtain⟨hp,hw1⟩:=g6 hs;obtain rfl:per=1:=by omega
  obtain rfl:wide=1:=by omega
  have hpr:o.predict=false:=by
   cases hp:o.predict with
   | false=>rfl
   | true=>have:=g8 hp;omega
  refine⟨(List.range H).map fun y=>dO 1 (di l (W*1) y),?_,?_⟩
  ·rw[dH,eU,hpr];refine lQ fun y _=> ?_
   show jr false o.big 1 1 (di l (W*1) y)=az false (dO 1 (di l (W*1) y));rw[jr,bX];simp [e9]
  ·intro P hP;obtain⟨y,hy,rfl⟩:=cu.1 hP;have hy:=iP.1 hy;refine⟨?_,z9 _ _⟩;rw[ni,py]
   ·omega
   ·rw[← hl,← dF];exact ef _ hy
 have hun:=fun(E F0:SProp) (t':List UInt8) (w:World) (h:St w0 w (E*F0)) (ht:dA w0 F0) (vb':Value) (hb:Stb w0 F0 (fun w=>Reads w 1 vb' (z++t').length ((z++t').map bv))) (hlen:t'.length=t.length)=>
  Kd h ht (o:=o) (o2:={ o with how:=0,every:=1 }) rfl rfl hz hW1 hW hH1 hH hs1 hsb hLH hmem hfx hJ2 hb (by rw[ae,hlen,← ae];exact hl9) (fun e=>by rw[ae,hlen,← ae];exact hl92 e) (pper:=(per:Int)) (pwide:=(wide:Int)) (pv:=vp)
 have HUN:=ac hun;have HSZ:=ac (fun w=>nm (w:=w) (n:=W*per) (by omega) hwd.1 hwd.2);have HROW:=ac (fun y (hy:y<H)=>Kh hmem (Ki (predict:=o.predict) (big:=o.big) (wide:=wide) (per:=per) (n:=W*per) (l:=l) hy));have HRL:=ac (fun y (hy:y<H)=>py (l:=l) (n:=W*per) (y:=y) (by rw[← hl,← dF];exact ef _ hy));have HRM:=ac (fun y x (hx:x∈di l (W*per) y)=>hall x (sc hx));have hpr:=g8;have hwI:(W:Int)*(per:Int)=((W*per:Nat):Int):=by simp
 have hmod:(W*per)%per=0:=Nat.mul_mod_left W per;obtain⟨n,hn⟩:∃ n,W*per=n:=⟨_,rfl⟩;rw[hn] at hl hn1 hnb hb1 hJl hJ2 hs1 hsb HUN HSZ HROW HRL HRM hwI hmod;obtain⟨sz,hsz⟩:∃ sz,(n*wide+7)/8=sz:=⟨_,rfl⟩;rw[hsz] at hJl hs1 hsb HUN HSZ HROW;clear g1 g2 g3 g4 g5 g6 g7 g8 g9 hmem hLH hleg hcan hun hn hfx hz hl92;have HLL:=ac hl;obtain⟨big,large,tiled,ow,oh,planar,scheme,predict,low,two,every,al,fin,how⟩:=o;simp only at HUN HLG HROW hJl hpr hJ2 hb;simp only[Opt.v,jO] at HUN HLG ⊢;obtain⟨J,hJ⟩:∃ J,aK (dH predict big wide per n l H)=J:=⟨_,rfl⟩;rw[hJ] at hJl HUN HROW hJ2;obtain⟨jl,hjl⟩:∃ jl,J.length=jl:=⟨_,rfl⟩;rw[hjl] at hJl hJ2;have HJL:=ac hJl;have HJE:=ac hjl;clear hJ hJl hjl;have T:=l8;have h3:=(fD h (pC W H per wide vp) (.cells #[.bool big,.bool large,.bool tiled,.int .i64 ow,.int .i64 oh,.bool planar,.int .i64 scheme,.bool predict,.bool low,.bool two,.int .i64 every,.bool al,.bool fin,.int .i64 how] 28)).alloc rC;have hz3:∀ o0 o1:Obj,((w.alloc o0).alloc o1).heap.size=w.heap.size+1+1:=fun o0 o1=>(jK _).trans (congrArg (· +1) (jK _))
 rw[hz3] at h3;have f0:=h3.right.right.cell 0 rfl;have f1:=h3.right.right.cell 1 rfl;have f2:=h3.right.right.cell 2 rfl;have h6:=(fD h (pC W H per wide vp) (.cells #[.bool big,.bool large,.bool tiled,.int .i64 ow,.int .i64 oh,.bool planar,.int .i64 scheme,.bool predict,.bool low,.bool two,.int .i64 1,.bool al,.bool fin,.int .i64 0] 28)).alloc rC;rw[hz3] at h6;have h6:=h6.perm (show _=blk (w.heap.size+1) (.cells #[.bool big,.bool large,.bool tiled,.int .i64 ow,.int .i64 oh,.bool planar,.int .i64 scheme,.bool predict,.bool low,.bool two,.int .i64 1,.bool al,.bool fin,.int .i64 0] 28)*(blk (w.heap.size+1+1) rC*(blk w.heap.size (pC W H per wide vp)*F)) by ac_rfl);have f2':=h6.right.right.cell 2 rfl;have f3':=h6.right.right.cell 3 rfl;have H6:=ac h6;clear h3 h6 hz3 h;simp only[pC,rC] at f0 f1 f2 f2' f3';go_enter Tryz.func14,Tryz.ntmps14;go_wp2_with (first
  | (go_at_call 9;apply ap)
  | (refine fq rfl 28 _ rfl H6.out rfl Tryz.underlying28 rfl (by show _=some 14;kernel_rfl) ?_)
  | (go_at_call 16;refine(HC.out _).mono ?_;rintro e w1 ⟨rfl,rfl⟩))
 refine on ((HLG.out _ _ H6.out).mono ?_);rintro e w4 ⟨rfl,h7⟩;generalize w.heap.size=gp at*
 obtain⟨B1,hB1⟩:∃ X,X=blk (gp+1) (.cells #[.bool big,.bool large,.bool tiled,.int .i64 ow,.int .i64 oh,.bool planar,.int .i64 scheme,.bool predict,.bool low,.bool two,.int .i64 1,.bool al,.bool fin,.int .i64 0] 28):=⟨_,rfl⟩;obtain⟨B2,hB2⟩:∃ X,X=blk (gp+1+1) rC:=⟨_,rfl⟩;rw[← hB1,← hB2] at h7;have HL1:=ac (fun(w:World) (A:SProp) (h:St w0 w (B1*A))=>show St w0 w (blk (gp+1) (.cells #[.bool big,.bool large,.bool tiled,.int .i64 ow,.int .i64 oh,.bool planar,.int .i64 scheme,.bool predict,.bool low,.bool two,.int .i64 1,.bool al,.bool fin,.int .i64 0] 28)*A) by rw[← hB1];exact h);have HL2:=ac (fun(w:World) (A:SProp) (h:St w0 w (B2*A))=>show St w0 w (blk (gp+1+1) rC*A) by rw[← hB2];exact h);have k8:=(HL1.out _ _ h7).cell 8 rfl;have e0:=h7.right.right.cell 0 rfl;have e2:=h7.right.right.cell 2 rfl;have e3:=h7.right.right.cell 3 rfl;clear hB1 hB2 f0 f1 f2 f2' f3' H6 HLG;obtain⟨F0,hF0⟩:∃ X,X=F:=⟨_,rfl⟩;obtain⟨t0,ht0⟩:∃ x,x=t:=⟨_,rfl⟩;have HLT:t0.length=t.length:=by rw[ht0]
 have HF:=ac (fun(A:SProp) (w:World) (h:St w0 w (A*F0))=>show St w0 w (A*F) by rw[← hF0];exact h);have HT:RowKit.Hid (dA w0 F0):=ac (by rw[hF0];exact htab);have H8:=ac h7;rw[← hF0] at H8;cases low
 case' false=>
  simp only[AL,if_false] at hb;have HB:=ac hb;rw[← hF0,← ht0] at HB;clear hF0 ht0 h7
 case' true=>
  simp only[if_true] at hb;have HRV:=ac (vQ h7 (z.map db++t) (v:=vb) (fun w h=>hb w h.right.right.right) (by rw[ae,bS,← ae];omega));have ert:(z.map db++t).map db=z++t.map db:=by rw[List.map_append,Kg]
  rw[ert] at HRV;clear ert hF0 ht0 h7 HF HT H8 HLT F0 t0
 all_goals
  go_wp2_with (first
   | (go_at_call 34;apply ap)
   | (go_at_call 33;refine(HSZ.out _).mono ?_;rintro e w5 ⟨rfl,rfl⟩)
   | (refine fq rfl 24 _ rfl (H8.out.perm (show _=blk gp (pC W H per wide vp)*(B1*(B2*F0)) by ac_rfl)) rfl Tryz.underlying24 rfl (by show _=some 5;kernel_rfl) ?_)
   | (refine fq rfl 28 _ rfl (HL1.out _ _ H8.out) rfl Tryz.underlying28 rfl (by show _=some 14;kernel_rfl) ?_)
   | (go_at_call 19;refine HRV.out.mono ?_;rintro e w6 ⟨v6,rfl,h8⟩;(obtain⟨t0,ht0⟩:∃ x,x=t.map db:=⟨_,rfl⟩);(obtain⟨F0,hF0⟩:∃ X,X=own 5 1 v6 (z++t0).length ((z++t0).map bv)*F:=⟨_,rfl⟩);rw[← ht0] at h8;have HLT:t0.length=t.length:=(by rw[ht0,bS]);have HF:=ac (fun(A:SProp) (w:World) (h:St w0 w (A*F0))=>show St w0 w (A*F) by rw[hF0] at h;exact(h.perm (ak _ _ _)).right);have HT:RowKit.Hid (dA w0 F0):=ac (by rw[hF0];exact fun w h=>htab w h.right);have HB:RowKit.Hid (Stb w0 F0 (fun w=>Reads w 1 v6 (z++t0).length ((z++t0).map bv))):=ac (by rw[hF0];exact Stb.of_own);have H8:=ac (h8.perm (show _=B1*(B2*(blk gp (pC W H per wide vp)*(own 5 1 v6 (z++t0).length ((z++t0).map bv)*F))) by ac_rfl));rw[← hF0] at H8;have e0:=H8.out.right.right.cell 0 rfl;have e2:=H8.out.right.right.cell 2 rfl;have e3:=H8.out.right.right.cell 3 rfl;clear h8 HRV hF0 ht0))
  refine on ((HUN.out (B1*(B2*blk gp (pC W H per wide vp))) F0 t0 _ (H8.out.perm (by simp only[aW])) HT.out _ HB.out HLT).mono ?_);rintro e w10 ⟨v10,G,rfl,h10,hrd⟩;rw[HJE.out] at hrd;obtain⟨a10,c10,rfl⟩:=(hrd _ (h10.perm (show _=(B1*(B2*blk gp (pC W H per wide vp)))*(G*F0) by ac_rfl)).right).sub;have h11:=h10.perm (show _=blk gp (pC W H per wide vp)*(B1*(B2*(G*F0))) by ac_rfl);have c4:=h11.cell 4 rfl;have r4:=h11.free 4;have h12:St w0 _ (blk gp (pC W H per wide (.slice none 0 0))*(B1*(B2*(G*F0)))):=h11.set 4 (.slice none 0 0);have d1:=h12.cell 1 rfl;have H12:=ac (St.own_nil 48 1 h12);have HRD:=ac hrd;clear h10 h11 h12 hrd k8 e0 e2 e3 H8 HSZ HUN HT HB HLT;go_wp2_with fail
  go_loopw [65] (fun vi wr=>∃ (y m:Nat) (ao:Option Addr) (co:Nat),y≤H∧vi= .int .i64 y∧RowKit.Hid (y*n=m)∧m≤l.length∧St w0 wr (own 48 1 (.slice ao m co) m ((l.take m).map uv)*(blk gp (pC W H per wide (.slice ao m co))*(B1*(B2*(G*F0)))))) (fun vi _=>H-(intOf vi).toNat)
  case atStart=>exact⟨0,0,none,0,Nat.zero_le _,rfl,ac (mQ n),Nat.zero_le _,H12.out⟩
  case round=>
   clear H12 d1;obtain⟨y,m,ao,co,hy,rfl,hQ,hm,hst⟩:=hrel
   by_cases hyn:y<H
   ·have hyI:(y:Int)<H:=by omega
    obtain⟨ys,hys⟩:∃ ys,y*sz=ys:=⟨_,rfl⟩;have hJl':ys+sz≤jl:=by rw[HJL.out,← hys,← dF];exact ef _ hyn
    have hsI:(y:Int)*(sz:Int)=(ys:Int):=by rw[← hys];simp
    obtain⟨ys1,hys1⟩:∃ ys1,ys+sz=ys1:=⟨_,rfl⟩;have hsI1:((y:Int)+1)*(sz:Int)=(ys1:Int):=by rw[Int.add_mul,hsI,← hys1];simp
    have hys1b:ys1≤1000000:=by omega
    have hrd:=HRD.out _ (hst.perm (show _=(own 48 1 (.slice ao m co) m ((l.take m).map uv)*(blk gp (pC W H per wide (.slice ao m co))*(B1*B2)))*(G*F0) by ac_rfl)).right;obtain⟨b,off,ee,_⟩:=hrd.at_ (show 0<jl by omega);cases ee;have hcap:=(iq hrd).1;have hlo:(ys:Int)≤(ys1:Nat):=by omega
    have hhi:(ys1:Int)≤c10:=by omega
    have hcy:¬ c10=ys:=by omega
    have hsub:ys1-ys=sz:=by omega
    have hwn:IntKind.i64.wrap (n:Int)=n:=IntWalk.i64_in _ (by omega);have hwy:IntKind.i64.wrap ((y:Int)+1)=(y:Int)+1:=IntWalk.i64_in _ (by omega);have hwys:IntKind.i64.wrap (ys:Int)=ys:=IntWalk.i64_in _ (by omega);have hwys1:IntKind.i64.wrap (ys1:Int)=ys1:=IntWalk.i64_in _ (by omega);have hmn:m+n≤l.length:=by rw[← hl,← hQ.out,← dF];exact ef _ hyn
    have HTK:=ac (show l.take (m+n)=l.take m++di l n y by rw[← hQ.out];exact vV l n y);have HMN:=ac (show(y+1)*n=m+n by rw[dF,hQ.out]);have hrow:=HROW.out y hyn;have HRLY:=ac (HRL.out y hyn);have HRMY:=ac (HRM.out y);obtain⟨R,hR⟩:∃ R,R=if predict=true then eJ wide per (di l n y) else di l n y:=⟨_,rfl⟩
    have hRl:R.length=n:=by rw[hR];cases predict <;> simp [nj,HRLY.out]
    have hRm:∀ x∈R,x<2^wide:=by rw[hR];cases predict;exact HRMY.out;exact r9 HRMY.out
    have hpl:(bX wide big R).length=sz:=by rw[r8,hRl,hsz]
    have HRB:=ac (fun(w:World) (h:St w0 w (G*F0))=>show Reads w 1 (.slice (some ⟨b,off+ys,none⟩) sz (c10-ys)) sz ((bX wide big R).map bv) by
     have:=wi (HRD.out w h) (i:=ys) (k:=sz) (by omega);rwa [← hys,hrow,hys,jr,← hR] at this)
    have HUP:=ac (fun(w:World) (h:St w0 w (own 48 1 (.slice ao m co) m ((l.take m).map uv)*(blk gp (pC W H per wide (.slice ao m co))*(B1*(B2*(G*F0))))))=>by
     have C:=JP h (row:=R) (t:=[]) (v:= .slice (some ⟨b,off+ys,none⟩) sz (c10-ys)) (wide:=wide) (big:=big) (fun w h=>by
      have h2:=HRB.out w (h.perm (show _=(own 48 1 (.slice ao m co) m ((l.take m).map uv)*(blk gp (pC W H per wide (.slice ao m co))*(B1*B2)))*(G*F0) by ac_rfl)).right;rw[cy,hpl];exact h2) (by omega) (by rw[cy,hpl];omega) hRm hwd.1 hwd.2
     rw[hRl] at C;exact C)
    have HR:=ac hR;have q0:=hst.right.cell 0 rfl;have q2:=hst.right.cell 2 rfl;have q3:=hst.right.cell 3 rfl;have p0:=(HL1.out _ _ hst.right.right).cell 0 rfl;have HST:=ac hst;clear hst hrd hrow hys hR hRl hRm hpl;go_upto_region 16 with (fail)
    refine wp_region_noPanic ?_;refine io (S:=(fun w':World=>w'.cell? ⟨gp,0,none⟩=some (.int .i64 (W:Int))∧w'.cell? ⟨gp,2,none⟩=some (.int .i64 (per:Int))∧w'.cell? ⟨gp,3,none⟩=some (.int .i64 (wide:Int))∧w'.cell? ⟨gp+1,0,none⟩=some (.bool big))) (k:=18) (by kernel_rfl) ?_;have hS:(fun w':World=>w'.cell? ⟨gp,0,none⟩=some (.int .i64 (W:Int))∧w'.cell? ⟨gp,2,none⟩=some (.int .i64 (per:Int))∧w'.cell? ⟨gp,3,none⟩=some (.int .i64 (wide:Int))∧w'.cell? ⟨gp+1,0,none⟩=some (.bool big)) wr:=⟨q0,q2,q3,p0⟩;clear q0 q2 q3 p0;refine ay 0 rfl (by kernel_rfl) rfl (fun _ _ _ h=>h) (by assumption) ⟨?_,fun w=> ?_,?_⟩;rotate_left
    ·(go_simp;try with_reducible rfl)
    simp only[Act.put,sA,sZ,sS];refine ay 1 rfl (by kernel_rfl) rfl (fun _ _ _ h=>h) (by assumption) ⟨?_,fun w=> ?_,?_⟩;rotate_left
    ·(go_simp;try with_reducible rfl)
    simp only[Act.put,sA,sZ,sS];refine ay 2 rfl (by kernel_rfl) rfl (fun _ _ _ h=>h) (by assumption) ⟨?_,fun w=> ?_,?_⟩;rotate_left
    ·(go_simp;try with_reducible rfl)
    simp only[Act.put,sA,sZ,sS];refine ay 3 rfl (by kernel_rfl) rfl (fun _ _ _ h=>h) (by assumption) ⟨?_,fun w=> ?_,?_⟩;rotate_left
    ·(go_simp;try with_reducible rfl)
    simp only[Act.put,sA,sZ,sS];refine ay 4 rfl (by kernel_rfl) rfl (fun _ _ _ h=>h) (by assumption) ⟨?_,fun w=> ?_,?_⟩;rotate_left
    ·(go_simp;try with_reducible rfl)
    simp only[Act.put,sA,sZ,sS];refine ay 5 rfl (by kernel_rfl) rfl (fun _ _ _ h=>h) (by assumption) ⟨?_,fun w=> ?_,?_⟩;rotate_left
    ·(go_simp;try with_reducible rfl)
    simp only[Act.put,sA,sZ,sS];refine ay 6 rfl (by kernel_rfl) rfl (fun _ _ _ h=>h) (by assumption) ⟨?_,fun w=> ?_,?_⟩;rotate_left
    ·(go_simp;try with_reducible rfl)
    simp only[Act.put,sA,sZ,sS];refine ay 7 rfl (by kernel_rfl) rfl (fun _ _ _ h=>h) (by assumption) ⟨?_,fun w=> ?_,?_⟩;rotate_left
    ·(go_simp;try with_reducible rfl)
    simp only[Act.put,sA,sZ,sS];refine ay 8 rfl (by kernel_rfl) rfl (fun _ _ _ h=>h) (by assumption) ⟨?_,fun w=> ?_,?_⟩;rotate_left
    ·(go_simp;try with_reducible rfl)
    simp only[Act.put,sA,sZ,sS];refine ay 9 rfl (by kernel_rfl) rfl (fun _ _ _ h=>h) (by assumption) ⟨?_,fun w=> ?_,?_⟩;rotate_left
    ·(go_simp;try with_reducible rfl)
    simp only[Act.put,sA,sZ,sS];refine u5 13 (i:=10) (oi:= ?_) (v:= ?_) ?_ (by kernel_rfl) (by kernel_rfl) (by kernel_rfl) (by kernel_rfl) (by kernel_rfl) (by kernel_rfl) (by kernel_rfl) (by decide) (by decide) (by decide) (fun _ _ _ h=>h.elim) (by assumption) (.inl ⟨?_,fun w hSw=> ?_⟩) ?_;rotate_left 2
    ·(simp only[lI,dE,lL];rfl)
    ·rfl
    ·((try dsimp only at hSw);obtain⟨hs0,hs1,hs2,hs3⟩:=hSw;go_simp;try with_reducible rfl)
    simp only[Act.put,sA,sZ,sS];refine ay 11 rfl (by kernel_rfl) rfl (fun _ _ _ h=>h) (by assumption) ⟨?_,fun w=> ?_,?_⟩;rotate_left
    ·(go_simp;try with_reducible rfl)
    simp only[Act.put,sA,sZ,sS];refine u5 13 (i:=12) (oi:= ?_) (v:= ?_) ?_ (by kernel_rfl) (by kernel_rfl) (by kernel_rfl) (by kernel_rfl) (by kernel_rfl) (by kernel_rfl) (by kernel_rfl) (by decide) (by decide) (by decide) (fun _ _ _ h=>h.elim) (by assumption) (.inl ⟨?_,fun w hSw=> ?_⟩) ?_;rotate_left 2
    ·(simp only[lI,dE,lL];rfl)
    ·rfl
    ·((try dsimp only at hSw);obtain⟨hs0,hs1,hs2,hs3⟩:=hSw;go_simp;try with_reducible rfl)
    simp only[Act.put,sA,sZ,sS];refine ay 13 rfl (by kernel_rfl) rfl (fun _ _ _ h=>h) (by assumption) ⟨?_,fun w=> ?_,?_⟩;rotate_left
    ·(go_simp;try with_reducible rfl)
    simp only[Act.put,sA,sZ,sS];refine ay 14 rfl (by kernel_rfl) rfl (fun _ _ _ h=>h) (by assumption) ⟨?_,fun w=> ?_,?_⟩;rotate_left
    ·(go_simp;try with_reducible rfl)
    simp only[Act.put,sA,sZ,sS];refine dG 15 rfl (by kernel_rfl) rfl (fun _ _ _ h=>h) (by assumption) ⟨?_,fun w hSw=> ?_,?_⟩;rotate_left
    ·((try dsimp only at hSw);obtain⟨hs0,hs1,hs2,hs3⟩:=hSw;go_simp;try with_reducible rfl)
    simp only[Act.put,sA,sZ,sS];refine ay 16 rfl (by kernel_rfl) rfl (fun _ _ _ h=>h) (by assumption) ⟨?_,fun w=> ?_,?_⟩;rotate_left
    ·(go_simp;try with_reducible rfl)
    simp only[Act.put,sA,sZ,sS];refine dG 17 rfl (by kernel_rfl) rfl (fun _ _ _ h=>h) (by assumption) ⟨?_,fun w hSw=> ?_,?_⟩;rotate_left
    ·((try dsimp only at hSw);obtain⟨hs0,hs1,hs2,hs3⟩:=hSw;go_simp;try with_reducible rfl)
    simp only[Act.put,sA,sZ,sS];refine bq (i:=18) (by kernel_rfl) ?_;refine wpOp_step (by rfl) fun K hK=> ?_
    go_simp;refine(HUP.out _ HST.out.drew).mono ?_;rintro e w2 ⟨v2,rfl,h2⟩;have hS2:(fun w':World=>w'.cell? ⟨gp,0,none⟩=some (.int .i64 (W:Int))∧w'.cell? ⟨gp,2,none⟩=some (.int .i64 (per:Int))∧w'.cell? ⟨gp,3,none⟩=some (.int .i64 (wide:Int))∧w'.cell? ⟨gp+1,0,none⟩=some (.bool big)) w2:=⟨h2.right.right.cell 0 rfl,h2.right.right.cell 2 rfl,h2.right.right.cell 3 rfl,(HL1.out _ _ h2.right.right.right).cell 0 rfl⟩;refine hK _ _ ⟨fun e=>hS2,?_⟩;clear hK K hS;have hS:=hS2;refine ay 19 rfl (by kernel_rfl) rfl (fun _ _ _ h=>h) (by assumption) ⟨?_,fun w=> ?_,?_⟩;rotate_left
    ·(go_simp;try with_reducible rfl)
    simp only[Act.put,sA,sZ,sS];refine ay 20 rfl (by kernel_rfl) rfl (fun _ _ _ h=>h) (by assumption) ⟨?_,fun w=> ?_,?_⟩;rotate_left
    ·(go_simp;try with_reducible rfl)
    simp only[Act.put,sA,sZ,sS];refine ay 21 rfl (by kernel_rfl) rfl (fun _ _ _ h=>h) (by assumption) ⟨?_,fun w=> ?_,?_⟩;rotate_left
    ·(go_simp;try with_reducible rfl)
    simp only[Act.put,sA,sZ,sS];refine ay 22 rfl (by kernel_rfl) rfl (fun _ _ _ h=>h) (by assumption) ⟨?_,fun w=> ?_,?_⟩;rotate_left
    ·(go_simp;try with_reducible rfl)
    simp only[Act.put,sA,sZ,sS];refine ay 23 rfl (by kernel_rfl) rfl (fun _ _ _ h=>h) (by assumption) ⟨?_,fun w=> ?_,?_⟩;rotate_left
    ·(go_simp;try with_reducible rfl)
    simp only[Act.put,sA,sZ,sS];refine⟨by kernel_rfl,NoPanic.normal ?_⟩;clear hS hS2 HST;obtain⟨a2,c2,rfl⟩:=h2.reads.sub;have q7:=(HL1.out _ _ h2.right.right.right).cell 7 rfl;have HR2:=HR.out;clear HR;cases predict
    case' false=>
     simp only[AL,if_false] at HR2;subst HR2;obtain⟨a3,ha3⟩:∃ a,a=a2:=⟨_,rfl⟩;obtain⟨c3,hc3⟩:∃ c,c=c2:=⟨_,rfl⟩;subst ha3 hc3;obtain⟨G',hG'⟩:∃ X,X=G:=⟨_,rfl⟩;have HG:=ac (fun(A:SProp) (w:World) (h:St w0 w (G'*A))=>show St w0 w (G*A) by rw[← hG'];exact h);have HX:=ac h2;rw[← hG'] at HX;clear h2 hG'
    case' true=>
     simp only[if_true] at HR2;subst HR2;have HUD:=ac (CZ h2 (l:=di l n y) (v:= .slice a2 n c2) (wide:=wide) (per:=per) (fun w h=>by rw[HRLY.out];exact h.reads) (by rw[HRLY.out];omega) HRMY.out (by have:=hpr rfl;omega) hper.1 (by omega) (by rw[HRLY.out];exact hmod));have q2:=h2.right.right.cell 2 rfl;have q3:=h2.right.right.cell 3 rfl;clear h2;go_wp2_with (go_at_call 36;apply ap);refine on (HUD.out.mono ?_);rintro e w3 ⟨v3,rfl,h3⟩;rw[HRLY.out] at h3;obtain⟨a3,c3,rfl⟩:=h3.reads.sub;clear HUD q2 q3 q7;obtain⟨G',hG'⟩:∃ X,X=own 48 1 (.slice a2 n c2) n ((eJ wide per (di l n y)).map uv)*G:=⟨_,rfl⟩;have HG:=ac (fun(A:SProp) (w:World) (h:St w0 w (G'*A))=>show St w0 w (G*A) by rw[hG',aW] at h;exact h.right);have HX:=ac (h3.perm (show _=own 48 1 (.slice a3 n c3) n ((di l n y).map uv)*(own 48 1 (.slice ao m co) m ((l.take m).map uv)*(blk gp (pC W H per wide (.slice ao m co))*(B1*(B2*((own 48 1 (.slice a2 n c2) n ((eJ wide per (di l n y)).map uv)*G)*F0))))) by ac_rfl));rw[← hG'] at HX;clear h3 hG'
    all_goals
     have q4:=HX.out.right.right.cell 4 rfl;go_wp2_with (at_builtin;apply ap);refine on (aG T rfl _ _ rfl rfl (HX.out.perm (ak _ _ _)) rfl HX.out.reads (rZ _) (by unfold maxLen;omega) (by omega) ?_);intro v4 w4 h4 _;rw[← List.map_append,← HTK.out] at h4;obtain⟨a4,c4,rfl⟩:=h4.reads.sub;have h5:=h4.perm (show _=blk gp (pC W H per wide (.slice ao m co))*(own 48 1 (.slice a3 n c3) n ((di l n y).map uv)*(G'*(own 48 1 (.slice a4 (m+n) c4) (m+n) ((l.take (m+n)).map uv)*(B1*(B2*F0))))) by ac_rfl);have s4:=h5.cell 4 rfl;have r4:=h5.free 4;have h6:St w0 _ (blk gp (pC W H per wide (.slice a4 (m+n) c4))*(own 48 1 (.slice a3 n c3) n ((di l n y).map uv)*(G'*(own 48 1 (.slice a4 (m+n) c4) (m+n) ((l.take (m+n)).map uv)*(B1*(B2*F0)))))):=h5.set 4 (.slice a4 (m+n) c4);have h7:=(h6.perm (ak _ _ _)).right;have H7:=ac (HG.out _ _ (h7.perm (ak _ _ _)));clear h4 h5 h6 h7 HX;go_wp2_with fail;exact⟨⟨y+1,m+n,a4,c4,by omega,by go_num,HMN,hmn,H7.out.perm (by ac_rfl)⟩,by simp [intOf];omega⟩
   ·obtain rfl:y=H:=by omega
    have hml:m=l.length:=by rw[← hQ.out,HLL.out]
    rw[hml,cS] at hst;have HP8:=ac (hst.perm (ak _ _ _));have HB8:=ac (HL2.out _ _ (hst.perm (show _=B2*(blk gp (pC W y per wide (.slice ao l.length co))*(B1*(own 48 1 (.slice ao l.length co) l.length (l.map uv)*(G*F0)))) by ac_rfl)));have HR8:=ac (HB8.out.setRow #[.int .i64 (W:Int),.int .i64 (y:Int),.int .i64 (per:Int),.int .i64 (wide:Int),.slice ao l.length co]);clear hst;go_wp2_with (first | (refine fq rfl 24 _ rfl HP8.out rfl Tryz.underlying24 rfl (by show _=some 5;kernel_rfl) ?_) | (refine mJ rfl 24 _ _ rfl HB8.out rfl rfl (by show _=some 5;kernel_rfl) rfl rfl ?_));refine j5 rfl rfl HR8.out.at_ Tryz.underlying24 rfl (by show _=some 5;kernel_rfl) rfl ?_;exact⟨_,rfl,HF.out _ _ ((HR8.out.right.right.right.perm (ak _ _ _)).right)⟩
theorem Kk {P:Program} {w0 w:World} {F:SProp} {ops:Array Oper} {rest:List Oper} {o:Oper} {a:Act} {Q:Exit→Act→World→Prop} (hw:Region.wanted o (yielded ops a.tmps)=true) (ty:TypeId) (x:Operand) (ho:o.op= .load ty x)
  {g:Nat} {cs:Array Value} {e:TypeId} {fr:Nat × Nat} (h:St w0 w (blk g (.cells cs e fr)*F)) (hx:a.eval x= .pointer (some ⟨g,0,none⟩)) {d:TypeDesc}
  (hu:P.underlying ty=some d) (hd:(match d with | .struct _ | .array _ _=>true | _=>false)=true) (hi:(P.info? ty).map (·.size)=some cs.size)
  (hK:wpList P ops Q rest (a.put o.dst (.agg cs)) w):wpList P ops Q (o::rest) a w:=by
 unfold wpList;rw[if_pos hw];exact .inl (wp_load_row ty x ho g hx e cs fr d h.at_ hu hd hi hK)
theorem St.setRow_size (w:World) (b:Nat) (c:Array Value):(w.setRow b c).heap.size=w.heap.size:=by simp
def j8:Opt:=⟨false,false,false,0,0,false,1,false,false,false,0,false,false,0⟩
theorem Kl {z:List UInt8} (h:TellS j8 2 (dH false false 8 1 (2*1) [7,9] 1) z):z=[7,9]:=by
 rcases h with ⟨_,rfl⟩ | ⟨e,_⟩ | ⟨e,_⟩ | ⟨e,_⟩ | ⟨e,_⟩ | ⟨e,_⟩ | ⟨e,_⟩
 ·decide
 all_goals first | (exact absurd e (by decide)) | (rcases e with e | e <;> exact absurd e (by decide))
theorem Ah {w0 w:World} {F:SProp} (h:St w0 w F) (htab:dA w0 F):
  Calls Tryz.prog 7 #[] w fun e w'=>e= .returned (.bool true)∧St w0 w' F:=by
 have H:=ac h;have HT:=ac htab;clear h htab;go_enter Tryz.func7,Tryz.ntmps7;go_wp2_with (go_at_call 8;apply ap);have h1:=(H.out.alloc (.cells (ba j8) 28)).lit #[.int .u32 7,.int .u32 9] 48 2 rfl (by decide);rw[show(w.alloc (.cells (ba j8) 28)).heap.size=w.heap.size+1 from jK _] at h1;refine on ((Ae h1 (fun w h=>HT.out w h.right.right) (l:=[7,9]) (v:= .slice (some ⟨w.heap.size+1,0,none⟩) 2 2) (W:=2) (H:=1) (per:=1) (wide:=8) Stb.of_own (by decide) rfl (by decide) (by decide) (by decide) j8 rfl rfl).mono ?_);rintro e w2 hd;obtain⟨v2,z,rfl,hz,h2⟩:=hd.1 (by decide);obtain rfl:=Kl hz;have h2:St w0 w2 (own 5 1 v2 2 (([7,9]:List UInt8).map bv)*(own 48 1 (.slice (some ⟨w.heap.size+1,0,none⟩) 2 2) 2 (([7,9]:List Nat).map uv)*(blk w.heap.size (.cells (ba j8) 28)*F))):=h2;have H2:=ac h2;have HB2:=ac (h2.perm (show _=blk w.heap.size (.cells (ba j8) 28)*(own 5 1 v2 2 (([7,9]:List UInt8).map bv)*(own 48 1 (.slice (some ⟨w.heap.size+1,0,none⟩) 2 2) 2 (([7,9]:List Nat).map uv)*F)) by ac_rfl));have HO:=ac (Ag (l:=[7,9]) (W:=2) (H:=1) (per:=1) (wide:=8) h2 (fun w h=>HT.out w h.right.right.right) (by decide) (by decide) (by decide) (by decide) (by decide) j8 rfl rfl (z:=[7,9]) (t:=[]) hz (by decide) (fun e=>absurd e (by decide)) (vb:=v2) (vp:= .slice none 0 0) Stb.of_own);clear hd h2 hz h1 H;generalize w.heap.size=gp at*
 go_wp2_with (first | (go_at_call 14;apply ap) | (refine fq rfl 28 _ rfl HB2.out rfl Tryz.underlying28 rfl (by show _=some 14;kernel_rfl) ?_));refine on (HO.out.mono ?_);rintro e w3 ⟨v3,rfl,h3⟩;obtain⟨a3,c3,rfl⟩:=h3.reads.sub;obtain⟨a2,c2,rfl⟩:=h3.right.reads.sub;have hz4:=h3.alloc (.cells #[.int .i64 0,.int .i64 0,.int .i64 0,.int .i64 0,.slice none 0 0] 24);have h4:St w0 _ (blk w3.heap.size (.cells #[.int .i64 2,.int .i64 1,.int .i64 1,.int .i64 8,.slice a3 2 c3] 24)*_):=hz4.setRow #[.int .i64 2,.int .i64 1,.int .i64 1,.int .i64 8,.slice a3 2 c3];have HZ4:=ac hz4;have q1:=uM (P:=Tryz.prog) (bs:=[7,9]) Tryz.underlying32 Tryz.underlying5 Tryz.underlying9 h4.right.right.reads;have k4:=h4.cell 4 rfl;have h5:=h4.lit #[.int .u32 7,.int .u32 9] 48 2 rfl (by decide);have e5:∀ (o:Obj) (c:Array Value),((w3.alloc o).setRow w3.heap.size c).heap.size=w3.heap.size+1:=fun o c=>(St.setRow_size (w3.alloc o) w3.heap.size c).trans (jK _)
 rw[e5] at h5;have HS:=ac (Ad (a:=[7,9]) (b:=[7,9]) (va:= .slice a3 2 c3) h5.right.right.reads h5.reads (by decide) (by decide) (by decide));have H5:=ac h5;clear h3 h4 h5 HO H2 HB2 hz4 e5;have HLG:=ac (fun(G:SProp) (w:World) (h:St w0 w G)=>pB h j8 1 8);rw[show j8.legal 1 8=true from rfl] at HLG;go_wp2_with (first
  | (go_at_call 11;apply ap)
  | (refine mJ rfl 24 _ _ rfl HZ4.out rfl rfl (by show _=some 5;kernel_rfl) rfl rfl ?_))
 refine on (HS.out.mono ?_);rintro e w6 ⟨rfl,q,rfl⟩;have H6:=ac (H5.out.drewN q).right.right.right.right.right;clear HS;go_wp2_with (first
  | (go_at_call 9;refine(HLG.out _ _ H6.out).mono ?_;rintro e w7 ⟨rfl,h7⟩;have H7:=ac h7;clear h7 H6)
  | (refine Kk rfl 28 _ rfl H6.out rfl Tryz.underlying28 rfl (by show _=some 14;kernel_rfl) ?_))
 go_ret;exact⟨rfl,H7.out.right⟩
end Go.Proofs.YtboflbdniogcdaaGreatDoor
