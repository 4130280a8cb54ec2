/-
  Parts of a proof.
-/
import Derived.Test.YtboflbdniogcdaaGreatDoorK17
import Derived.Test.YtboflbdniogcdaaGreatDoorK13
import Derived.Test.YtboflbdniogcdaaGreatDoorK32
import Derived.Test.YtboflbdniogcdaaGreatDoorK31
set_option linter.unusedVariables false
set_option linter.unusedSimpArgs false
set_option maxRecDepth 100000
set_option maxHeartbeats 100000000
namespace Go.Proofs.YtboflbdniogcdaaGreatDoor
open Go.RowKit Go.Mz
inductive PbRows:List (List UInt8)→List UInt8→Prop
 | nil:PbRows [] []
 | cons {b z:List UInt8} {L:List (List UInt8)} {Z:List UInt8}:PbS b z→PbRows L Z→PbRows (b::L) (z++Z)
theorem PbRows.snoc {L:List (List UInt8)} {Z b z:List UInt8} (h:PbRows L Z) (hb:PbS b z):PbRows (L++[b]) (Z++z):=by
 induction h with
 | nil=>simpa using PbRows.cons hb .nil
 | cons h1 h2 ih=>rw[dB,List.append_assoc];exact .cons h1 ih
theorem PbRows.len {L:List (List UInt8)} {Z:List UInt8} (h:PbRows L Z):Z.length≤2*(aH L).length:=by
 induction h with
 | nil=>simp
 | cons h1 h2 ih=>have:=h1.len;simp only[aH,ta,ae] at *;omega
theorem wu {L:List (List UInt8)} (k:Nat):(aH (L.take k)).length≤(aH L).length:=by
 have e:L=L.take k++L.drop k:=(eQ k L).symm
 conv=>rhs;rw[e]
 rw[aH,aH,nA,ae];omega
theorem wv {L:List (List UInt8)} {X:List UInt8} (h:X∈L):X.length≤(aH L).length:=by
 induction L with
 | nil=>cases h
 | cons y r ih=>
  simp only[aH,ta,ae] at*
  rcases List.mem_cons.1 h with rfl | h
  ·omega
  ·have:=ih h;omega
theorem Ep {w0 w:World} {F:SProp} (h:St w0 w F) {R:List (Value × List UInt8)} {v:Value} (hv:Stb w0 F (fun w=>Reads w 1 v R.length (R.map Prod.fst))) (hr:Stb w0 F (fun w=>∀ x∈R,Reads w 1 x.1 x.2.length (x.2.map bv))) (hN:R.length≤1000000) (hL:(aH (R.map Prod.snd)).length≤1000000) (o:Opt) (hs:o.scheme=32773) (p:Array Value):
  Calls Tryz.prog 18 #[v,.agg p,o.v] w fun e w'=>∃ v' z,e= .returned (.tuple #[v',.int .i64 0])∧PbRows (R.map Prod.snd) z∧St w0 w' (own 5 1 v' z.length (z.map bv)*F):=by
 obtain⟨big,large,tiled,ow,oh,planar,scheme,predict,low,two,every,al,fin,how⟩:=o;simp only[Opt.v];simp only at hs;subst hs;have h3:=fy h (.cells p 24) (.cells #[.bool big,.bool large,.bool tiled,.int .i64 ow,.int .i64 oh,.bool planar,.int .i64 32773,.bool predict,.bool low,.bool two,.int .i64 every,.bool al,.bool fin,.int .i64 how] 28);have f6:=h3.cell 6 rfl;obtain⟨a0,c0,rfl⟩:=(hv w h).sub;have HV:=ac hv;have HR:=ac hr;have HLE:=ac (fun k=>wu (L:=R.map Prod.snd) k);have HME:=ac (fun X (hX:X∈R.map Prod.snd)=>wv hX);obtain⟨nr,hnr⟩:∃ nr,R.length=nr:=⟨_,rfl⟩;rw[hnr] at hN HV ⊢;have HNR:=ac hnr;have HLL:=ac hL;have H3:=ac h3;clear h hv hr hnr hL h3;have T:=eh;go_enter Tryz.func18,Tryz.ntmps18;go_wp2_with fail;have hz2:∀ o0 o1:Obj,((w.alloc o0).alloc o1).heap.size=w.heap.size+1+1:=fun o0 o1=>(gr _).trans (congrArg (· +1) (gr _))
 have h1:=H3.out.lit #[] 5 0 rfl (by decide);rw[hz2] at h1;have H1:=ac h1;clear h1 H3 f6 hz2;generalize (World.alloc (World.alloc w _) _)=wz at*
 generalize w.heap.size=gp at*
 go_loopw [8,23] (fun vo vi wr=>∃ (k zl:Nat) (ao:Option Addr) (co:Nat) (Z:List UInt8),k≤nr∧vi= .int .i64 k∧vo= .slice ao zl co∧RowKit.Hid (PbRows ((R.take k).map Prod.snd) Z∧Z.length=zl)∧zl≤2000000∧St w0 wr (own 5 1 (.slice ao zl co) zl (Z.map bv)*(blk (gp+1) (.cells #[.bool big,.bool large,.bool tiled,.int .i64 ow,.int .i64 oh,.bool planar,.int .i64 32773,.bool predict,.bool low,.bool two,.int .i64 every,.bool al,.bool fin,.int .i64 how] 28)*(blk gp (.cells p 24)*F)))) (fun _ vi _=>nr-(intOf vi).toNat)
 case atStart=>exact⟨0,0,_,0,[],Nat.zero_le _,rfl,rfl,ac ⟨.nil,rfl⟩,Nat.zero_le _,H1.out⟩
 case round=>
  clear H1;obtain⟨k,zl,ao,co,Z,hk,rfl,rfl,hZ,hzl,hst⟩:=hrel
  by_cases hkn:k<nr
  ·have hkI:(k:Int)<nr:=by omega
   have hkR:k<R.length:=by rw[HNR.out];exact hkn
   obtain⟨x,hx⟩:∃ x,R[k]? =some x:=⟨R[k],ai _⟩;obtain⟨b,off,rfl,hc⟩:=(HV.out _ hst.right.right.right).at_ hkn;rw[au,hx] at hc;obtain⟨vx,X⟩:=x;have hRX:=fun w h=>HR.out w h _ (aG hx)
   simp only[cB] at hc;have hXl:X.length≤1000000:=cX (HME.out X (bW.2 ⟨_,aG hx,rfl⟩)) HLL.out;have HX:=ac (BJ hst (bs:=X) (v:=vx) (fun w h=>hRX w h.right.right.right) hXl);have HTK:=ac (show(R.take (k+1)).map Prod.snd=(R.take k).map Prod.snd++[X] by rw[fZ hx,List.map_append];rfl);clear hx hst hRX hXl;go_wp2_with (first | (go_at_call 39;refine HX.out.mono ?_;rintro e w2 ⟨v2,z2,rfl,hz2,h2⟩;have HZ2:=ac hz2;obtain⟨a2,c2,rfl⟩:=h2.reads.sub;have H2:=ac h2;clear h2 hz2) | (at_builtin;apply ag));have hnew:PbRows ((R.take (k+1)).map Prod.snd) (Z++z2):=by rw[HTK.out];exact hZ.out.1.snoc HZ2.out
   have hle:=cX hnew.len (iV 2 (by rw[kn];exact HLE.out (k+1)));rw[ae,hZ.out.2] at hle;have hle2:zl+z2.length≤2000000:=by have:=HLL.out;omega
   have HNW:=ac hnew;clear hnew hle;obtain⟨z2l,hz2l⟩:∃ n,z2.length=n:=⟨_,rfl⟩;rw[hz2l] at H2 hle2 ⊢;have HXL:=ac hz2l;clear hz2l;refine on (aC T rfl _ _ rfl rfl (H2.out.perm (af _ _ _)) rfl H2.out.reads (gx z2) (by unfold maxLen;omega) (by omega) ?_);intro v3 w3 h3 _;rw[← List.map_append] at h3;have HZL:=ac (show(Z++z2).length=zl+z2l by rw[ae,hZ.out.2,HXL.out]);generalize Z++z2=Z2 at*
   obtain⟨a3,c3,rfl⟩:=h3.reads.sub;have H3:=ac ((h3.perm (af _ _ _)).right);clear h3 H2 HX;go_wp2_with fail;exact⟨⟨k+1,zl+z2l,a3,c3,Z2,by omega,by go_num,rfl,ac ⟨HNW.out,HZL.out⟩,hle2,H3.out⟩,by simp [intOf];omega⟩
  ·obtain rfl:k=nr:=by omega
   have HST:=ac hst.right.right;have hst2:=(hst.perm (af _ _ _)).right.perm (af _ _ _);have HS2:=ac hst2.right;clear hst hst2;go_wp2_with fail;go_ret2;have hZ:=hZ.out;rw[← HNR.out,cI] at hZ;refine⟨_,Z,rfl,hZ.1,?_⟩;rw[hZ.2];exact HS2.out
def cu (W:Nat) (L:List (List UInt8)):List (List Nat):=L.map fun X=>ay ((aF false X).take W)
theorem ww {P:List Nat} {width:Nat} (h:P.length=width) (hw:width≤400):gF width (ay P):=
 ⟨mR P,fun x hx=>h ▸ mO P x hx,cX (oP P) (by omega)⟩
theorem Er (w:World) (v:Value):Reads (w.alloc (.cells #[v] 79)) 1 (.slice (some ⟨w.heap.size,0,none⟩) 1 1) 1 [v]:=
 (St.own_blk (e:=79) (size:=1) (n:=1) (cap:=1) (xs:=[v]) ((St.init w).alloc _) (Nat.le_refl _) (by decide) rfl rfl).reads
theorem rS {w0 w:World} {F:SProp} (h:St w0 w F) (htab:eu w0 F) {R:List (Value × List UInt8)} {v:Value} (hv:Stb w0 F (fun w=>Reads w 1 v R.length (R.map Prod.fst))) (hr:Stb w0 F (fun w=>∀ x∈R,Reads w 1 x.1 x.2.length (x.2.map bv))) (hN:R.length≤300) {W:Nat} (h1:1≤W) (hw:W≤400) (hL:∀ x∈R,(W+7)/8≤x.2.length∧x.2.length≤1000000) {ph pper pwide:Int} {pv:Value} (o:Opt) {zz:List Nat}
  (hz:(o.scheme=2∧zz=bj W (cu W (R.map Prod.snd)) [])∨(o.scheme=3∧zz=fD W o.two o.al o.fin o.every (cu W (R.map Prod.snd))∧(o.two=true→1≤o.every))∨(o.scheme=4∧zz=iM W (cu W (R.map Prod.snd)))):
  Calls Tryz.prog 18 #[v,.agg #[.int .i64 (W:Int),.int .i64 ph,.int .i64 pper,.int .i64 pwide,pv],o.v] w fun e w'=>∃ v',e= .returned (.tuple #[v',.int .i64 0])∧St w0 w' (own 5 1 v' (aq false zz).length ((aq false zz).map bv)*F):=by
 obtain⟨big,large,tiled,ow,oh,planar,scheme,predict,low,two,every,al,fin,how⟩:=o;simp only at hz;simp only[Opt.v];have h3:=fy h (.cells #[.int .i64 (W:Int),.int .i64 ph,.int .i64 pper,.int .i64 pwide,pv] 24) (.cells #[.bool big,.bool large,.bool tiled,.int .i64 ow,.int .i64 oh,.bool planar,.int .i64 scheme,.bool predict,.bool low,.bool two,.int .i64 every,.bool al,.bool fin,.int .i64 how] 28);have f6:=h3.cell 6 rfl;obtain⟨B1,hB1⟩:∃ X,X=blk (w.heap.size+1) (.cells #[.bool big,.bool large,.bool tiled,.int .i64 ow,.int .i64 oh,.bool planar,.int .i64 scheme,.bool predict,.bool low,.bool two,.int .i64 every,.bool al,.bool fin,.int .i64 how] 28):=⟨_,rfl⟩;obtain⟨g1,hg1⟩:∃ g,g=w.heap.size+1:=⟨_,rfl⟩;have HC:=ac (fun(w':World) (A:SProp) (h:St w0 w' (B1*A))=>by
  rw[hB1,← hg1] at h;exact(⟨h.cell 9 rfl,h.cell 10 rfl,h.cell 11 rfl,h.cell 12 rfl⟩:w'.cell? ⟨g1,9,none⟩=some (.bool two)∧w'.cell? ⟨g1,10,none⟩=some (.int .i64 every)∧w'.cell? ⟨g1,11,none⟩=some (.bool al)∧w'.cell? ⟨g1,12,none⟩=some (.bool fin)))
 have HC6:=ac (fun(w':World) (A:SProp) (h:St w0 w' (B1*A))=>by
  rw[hB1,← hg1] at h;exact(⟨h.cell 6 rfl,trivial⟩:w'.cell? ⟨g1,6,none⟩=some (.int .i64 scheme)∧True))
 rw[← hB1] at h3;subst hg1;clear hB1;obtain⟨a0,c0,rfl⟩:=(hv w h).sub;have HV:=ac hv;have HR:=ac hr;have HT:=ac htab;have HLL:=ac hL;obtain⟨nr,hnr⟩:∃ nr,R.length=nr:=⟨_,rfl⟩;rw[hnr] at hN HV ⊢;have HNR:=ac hnr;have H3:=ac h3;have hWI:¬ (W:Int)<1:=by omega
 clear h hv hr hnr hL h3 htab;have T:=DZ;have HEN0:=ac (fun(w:World) (G:SProp) (R2:List (Value × List Nat)) (v:Value) (h:St w0 w G) (htab:eu w0 G) (hv:Stb w0 G (fun w=>Reads w 1 v R2.length (R2.map Prod.fst))) (hr:Stb w0 G (fun w=>∀ x∈R2,Reads w 1 x.1 x.2.length (x.2.map nv))) (hR:∀ x∈R2,gF W x.2) (hN:R2.length≤300) (hq:R2.map Prod.snd=cu W (R.map Prod.snd))=>(⟨by
  have C:=D0 h htab hv hr h1 (by omega) hR (by omega);rw[hq,← dm false] at C;exact C,fun hev=>by
  cases two
  ·have C:=Ed h htab hv hr h1 hw hR hN al fin every;rw[hq] at C;exact C
  ·have C:=Ee h htab hv hr h1 hw hR hN al fin every (hev rfl);rw[hq] at C;exact C,by
  have C:=Ec h htab hv hr h1 hw hR hN;rw[hq] at C;exact C⟩:Calls Tryz.prog 44 #[v,.int .i64 (W:Int)] w (fun e w'=>∃ v',e= .returned (.tuple #[v',.int .i64 0])∧St w0 w' (own 5 1 v' (aq false (bj W (cu W (R.map Prod.snd)) [])).length ((aq false (bj W (cu W (R.map Prod.snd)) [])).map bv)*G))∧((two=true→1≤every)→Calls Tryz.prog 45 #[v,.int .i64 (W:Int),.agg #[.bool two,.int .i64 every,.bool al,.bool fin]] w (fun e w'=>∃ v',e= .returned (.tuple #[v',.int .i64 0])∧St w0 w' (own 5 1 v' (aq false (fD W two al fin every (cu W (R.map Prod.snd)))).length ((aq false (fD W two al fin every (cu W (R.map Prod.snd)))).map bv)*G)))∧Calls Tryz.prog 46 #[v,.int .i64 (W:Int)] w (fun e w'=>∃ v',e= .returned (.tuple #[v',.int .i64 0])∧St w0 w' (own 5 1 v' (aq false (iM W (cu W (R.map Prod.snd)))).length ((aq false (iM W (cu W (R.map Prod.snd)))).map bv)*G))))
 rcases hz with ⟨rfl,rfl⟩ | ⟨rfl,rfl,hev⟩ | ⟨rfl,rfl⟩
 have HEN:=ac (fun w G R2 v h a b c d e f=>(HEN0.out w G R2 v h a b c d e f).1);rotate_left;have HEN:=ac (fun w G R2 v h a b c d e f=>(HEN0.out w G R2 v h a b c d e f).2.1 hev);rotate_left;have HEN:=ac (fun w G R2 v h a b c d e f=>(HEN0.out w G R2 v h a b c d e f).2.2);rotate_left
 all_goals
  clear HEN0;go_enter Tryz.func18,Tryz.ntmps18;go_wp2_with fail;have H1:=ac (St.own_nil 79 1 (DY H3.out));clear H3 f6;generalize (World.alloc (World.alloc w _) _)=wz at*
  generalize w.heap.size=gp at*
  go_loopw [11,54] (fun vo vi wr=>∃ (k:Nat) (R2:List (Value × List Nat)) (ao:Option Addr) (co:Nat),k≤nr∧vi= .int .i64 k∧vo= .slice ao k co∧RowKit.Hid (R2.map Prod.snd=cu W ((R.take k).map Prod.snd)∧R2.length=k)∧St w0 wr (own 79 1 (.slice ao k co) k (R2.map Prod.fst)*(gS R2*(B1*(blk gp (.cells #[.int .i64 (W:Int),.int .i64 ph,.int .i64 pper,.int .i64 pwide,pv] 24)*F))))) (fun _ vi _=>nr-(intOf vi).toNat)
  case atStart=>exact⟨0,[],none,0,Nat.zero_le _,rfl,rfl,ac ⟨rfl,rfl⟩,H1.out⟩
  case round=>
   clear H1;obtain⟨k,R2,ao,co,hk,rfl,rfl,hQ,hst⟩:=hrel
   by_cases hkn:k<nr
   ·have hkI:(k:Int)<nr:=by omega
    have hkR:k<R.length:=by rw[HNR.out];exact hkn
    obtain⟨x,hx⟩:∃ x,R[k]? =some x:=⟨R[k],ai _⟩;obtain⟨b,off,rfl,hc⟩:=(HV.out _ hst.right.right.right.right).at_ hkn;rw[au,hx] at hc;obtain⟨vx,X⟩:=x;have hRX:=fun w h=>HR.out w h _ (aG hx)
    simp only[cB] at hc;have hXl:=HLL.out _ (aG hx);have c0w:=hst.right.right.right.cell 0 rfl;have HX:=ac (Eo hst (bs:=X) (v:=vx) (fun w h=>hRX w h.right.right.right.right) (cX hXl.2 (by decide)) (width:=W) (by omega) hXl.1);have HTK:=ac (show cu W ((R.take (k+1)).map Prod.snd)=cu W ((R.take k).map Prod.snd)++[ay ((aF false X).take W)] by rw[fZ hx,List.map_append,cu,List.map_append];rfl);clear hx hst hRX hXl;generalize ay ((aF false X).take W)=C at*
    obtain⟨cl,hcl⟩:∃ n,C.length=n:=⟨_,rfl⟩;have HCL:=ac hcl;go_wp2_with (first | (at_builtin;apply ag) | (go_at_call 43;refine HX.out.mono ?_;rintro e w2 ⟨v2,rfl,h2⟩;obtain⟨a2,c2,rfl⟩:=h2.reads.sub;rw[hcl] at h2;have H2:=ac h2;clear h2 hcl HX c0w));rw[HCL.out];have h4:=H2.out.perm (show _=own 79 1 (.slice ao k co) k (R2.map Prod.fst)*(own 3 1 (.slice a2 cl c2) cl (C.map nv)*(gS R2*(B1*(blk gp (.cells #[.int .i64 (W:Int),.int .i64 ph,.int .i64 pper,.int .i64 pwide,pv] 24)*F)))) by ac_rfl);refine on (aC T rfl _ _ rfl rfl (h4.drop_alloc (.cells #[.slice a2 cl c2] 79)) rfl (Er _ (.slice a2 cl c2)) (by intro u hu;rw[List.mem_singleton.1 hu];rfl) (by unfold maxLen;omega) (by omega) ?_);intro v7 w7 h7 _;have h7:St w0 w7 (own 79 1 v7 (k+1) ((R2++[(Value.slice a2 cl c2,C)]).map Prod.fst)*(gS (R2++[(Value.slice a2 cl c2,C)])*(B1*(blk gp (.cells #[.int .i64 (W:Int),.int .i64 ph,.int .i64 pper,.int .i64 pwide,pv] 24)*F)))):=by
     rw[DW,List.map_append];simp only[HCL.out];exact h7.perm (by simp only[dR,ki];ac_rfl)
    have HQ2:=ac (show(R2++[(Value.slice a2 cl c2,C)]).map Prod.snd=cu W ((R.take (k+1)).map Prod.snd)∧(R2++[(Value.slice a2 cl c2,C)]).length=k+1 from
     ⟨by rw[HTK.out,List.map_append,hQ.out.1];rfl,by rw[ae,hQ.out.2];rfl⟩)
    generalize R2++[(Value.slice a2 cl c2,C)]=R3 at*
    obtain⟨a7,c7,rfl⟩:=h7.reads.sub;have H7:=ac h7;clear h7 h4 H2 hQ HTK;go_wp2_with fail;exact⟨⟨k+1,R3,a7,c7,by omega,by go_num,rfl,HQ2,H7.out⟩,by simp [intOf];omega⟩
   ·obtain rfl:k=nr:=by omega
    have c0w:=hst.right.right.right.cell 0 rfl;have c6w:=(HC6.out _ _ hst.right.right).1;have hq:=hQ.out;rw[← HNR.out,cI] at hq;have hro:∀ x∈R2,gF W x.2:=by
     intro x hx;have hm:x.2∈R2.map Prod.snd:=zq hx;rw[hq.1,cu,bW] at hm;obtain⟨X,hX,e⟩:=hm;obtain⟨y,hy,rfl⟩:=bW.1 hX;rw[← e];have hl8:=HLL.out y hy;exact ww (by rw[aJ,eg];omega) hw
    obtain⟨c9w,c10w,c11w,c12w⟩:=HC.out _ _ hst.right.right;have HE:=ac (HEN.out _ _ R2 (.slice ao k co) hst (fun w h=>HT.out w h.right.right.right.right) (by rw[hq.2,HNR.out];exact Stb.of_own) (fun w h x hx=>DX R2 _ h.right x hx) hro (by rw[hq.2,HNR.out];omega) hq.1);clear hst hro hq;go_wp2_with ((first | go_at_call 44 | go_at_call 45 | go_at_call 46);refine HE.out.mono ?_;rintro e w2 ⟨v2,rfl,h2⟩;have H2:=ac h2;clear h2 HE);go_ret2;have h5:=H2.out.perm (show _=own 79 1 (.slice ao k co) k (R2.map Prod.fst)*(gS R2*(B1*(blk gp (.cells #[.int .i64 (W:Int),.int .i64 ph,.int .i64 pper,.int .i64 pwide,pv] 24)*(own 5 1 v2 _ _*F)))) by ac_rfl);exact⟨_,rfl,h5.right.right.right.right⟩
end Go.Proofs.YtboflbdniogcdaaGreatDoor
