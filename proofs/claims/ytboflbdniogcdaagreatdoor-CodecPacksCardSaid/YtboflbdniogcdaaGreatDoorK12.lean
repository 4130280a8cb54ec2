/-
  Parts of a proof.
-/
import Derived.Test.YtboflbdniogcdaaGreatDoorK03
import Derived.Test.YtboflbdniogcdaaGreatDoorK05
set_option linter.unusedVariables false
set_option linter.unusedSimpArgs false
set_option maxRecDepth 100000
set_option maxHeartbeats 100000000
namespace Go.Proofs.YtboflbdniogcdaaGreatDoor
open Go.RowKit Go.Mz
def uv (v:Nat):Value:= .int .u32 (v:Int)
theorem nV (l:List Nat):∀ u∈l.map uv,u.oneCell'=true:=by
 intro u hu;obtain⟨c,_,rfl⟩:=bW.1 hu;rfl
def cO (wide:Nat):Bool:=wide==16||wide==32
def ff (wide:Nat) (big:Bool) (l:List Nat):List UInt8:=l.flatMap fun v=>dx big v (wide/8)
def dy (wide:Nat) (l:List Nat):List Nat:=l.flatMap fun v=>bi false v wide
def bF (wide:Nat) (big:Bool) (l:List Nat):List UInt8:=if cO wide=true then ff wide big l else aq false (dy wide l)
theorem nW (wide:Nat) (big:Bool) (l:List Nat):(ff wide big l).length=l.length*(wide/8):=by
 unfold ff
 induction l with
 | nil=>simp
 | cons a r ih=>rw[eZ,ae,jV,ih,aK,dC,kj]
theorem lu (wide:Nat) (l:List Nat):(dy wide l).length=l.length*wide:=by
 unfold dy
 induction l with
 | nil=>simp
 | cons a r ih=>rw[eZ,ae,fc,ih,aK,dC,kj]
theorem ud (wide:Nat) (big:Bool) (l:List Nat) (v:Nat):ff wide big (l++[v])=ff wide big l++dx big v (wide/8):=by
 simp [ff,jS]
theorem ue (wide:Nat) (l:List Nat) (v:Nat):dy wide (l++[v])=dy wide l++bi false v wide:=by
 simp [dy,jS]
theorem qT {wide:Nat} (big:Bool) (l:List Nat):(bF wide big l).length=(l.length*wide+7)/8:=by
 unfold bF
 by_cases h:cO wide=true
 ·rw[if_pos h,nW];have h:wide=16∨wide=32:=by simpa [cO] using h
  rcases h with rfl | rfl <;> omega
 ·rw[if_neg h,dm,lu]
def gC (wide per:Nat) (l:List Nat) (j:Nat):List Nat:=(List.range l.length).map fun i=>if i<j∨i<per then l.getD i 0 else(l.getD i 0+(2^wide-l.getD (i-per) 0))%2^wide
def dp (wide per:Nat) (l:List Nat):List Nat:=gC wide per l 0
theorem iG (wide per:Nat) (l:List Nat) (j:Nat):(gC wide per l j).length=l.length:=by simp [gC]
theorem iH {wide per:Nat} {l:List Nat} {j i:Nat} (hi:i<l.length):(gC wide per l j)[i]? =some (if i<j∨i<per then l.getD i 0 else(l.getD i 0+(2^wide-l.getD (i-per) 0))%2^wide):=by
 rw[gC,au,fs hi];rfl
theorem Bd (wide per:Nat) (l:List Nat):gC wide per l l.length=l:=by
 apply iA;intro i
 by_cases hi:i<l.length
 ·rw[iH hi,if_pos (.inl hi),List.getD_eq_getElem?_getD];simp [hi]
 ·rw[bg (by rw[iG];omega),bg (by omega)]
theorem Be {wide per:Nat} {l:List Nat} {i:Nat} (hi:i<l.length) (hp:per≤i):(gC wide per l (i+1)).set i ((l.getD i 0+(2^wide-l.getD (i-per) 0))%2^wide)=gC wide per l i:=by
 apply iA;intro k
 by_cases hk:k<l.length
 ·rw[iH hk]
  by_cases h:k=i
  ·subst h;rw[jt (by rw[iG];exact hk),if_neg (by omega)]
  ·rw[ju (by omega),iH hk]
   congr 1
   by_cases h2:k<i∨k<per
   ·rw[if_pos h2,if_pos (by omega)]
   ·rw[if_neg h2,if_neg (by omega)]
 ·rw[bg (by rw[eE,iG];omega),bg (by rw[iG];omega)]
theorem uf {wide per:Nat} (l:List Nat):∀ j,j≤per→gC wide per l j=dp wide per l:=by
 intro j hj;apply iA;intro k
 by_cases hk:k<l.length
 ·rw[dp,iH hk,iH hk]
  by_cases h:k<per
  ·rw[if_pos (.inr h),if_pos (.inr h)]
  ·rw[if_neg (by omega),if_neg (by omega)]
 ·rw[bg (by rw[iG];omega),bg (by rw[dp,iG];omega)]
theorem kD (wide per:Nat) (l:List Nat):(dp wide per l).length=l.length:=iG _ _ _ _
theorem nY {wide per:Nat} {l:List Nat} (hl:∀ v∈l,v<2^wide):∀ v∈dp wide per l,v<2^wide:=by
 intro v hv;obtain⟨i,hi,rfl⟩:=bW.1 hv;have hi:=gJ.1 hi;have hp:0<2^wide:=l8 _
 by_cases h:i<0∨i<per
 ·rw[if_pos h,List.getD_eq_getElem?_getD,ai hi];exact hl _ (bo hi)
 ·rw[if_neg h];exact jv _ hp
theorem Bf {a b wide m:Nat} (hw:wide=8∨wide=16∨wide=32) (hm:m=2^wide-1) (ha:a<2^wide) (hb:b<2^wide):
  bits .and .u32 (((a:Int)-(b:Int))%4294967296) (m:Int)=((a+(2^wide-b))%2^wide:Nat):=by
 obtain⟨x,hx⟩:∃ x:Nat,(x:Int)=((a:Int)-(b:Int))%4294967296:=⟨(((a:Int)-(b:Int))%4294967296).toNat,by omega⟩;rw[← hx,u32_and_nat x m (by omega) (by rcases hw with rfl | rfl | rfl <;> omega),hm,Jy]
 rcases hw with rfl | rfl | rfl <;> (congr 1;omega)
inductive PbS:List UInt8→List UInt8→Prop
 | nil:PbS [] []
 | run (n:Nat) (c:UInt8) (r z:List UInt8):2≤n→n≤128→PbS r z→PbS (List.replicate n c++r) (UInt8.ofNat (257-n)::c::z)
 | lit (l r z:List UInt8):1≤l.length→l.length≤128→PbS r z→PbS (l++r) (UInt8.ofNat (l.length-1)::(l++z))
theorem PbS.len {b z:List UInt8} (h:PbS b z):z.length≤2*b.length:=by
 induction h with
 | nil=>simp
 | run n c r z h1 h2 h ih=>simp;omega
 | lit l r z h1 h2 h ih=>simp;omega
theorem Bg {n wide:Nat} (hn:n≤4194304) (h2:wide≤32):n*wide≤134217728:=cX (dv hn h2) (by decide)
theorem mz {w:World} {n wide:Nat} (hn:n≤4194304) (h1:1≤wide) (h2:wide≤32):
  Calls Tryz.prog 33 #[.int .i64 (n:Int),.int .i64 (wide:Int)] w fun e w'=>e= .returned (.tuple #[.int .i64 (((n*wide+7)/8:Nat):Int),.int .i64 0])∧w=w':=by
 have hm:=Bg hn h2;have hmI:(n:Int)*(wide:Int)=((n*wide:Nat):Int):=by simp
 obtain⟨m,hmm⟩:∃ m,n*wide=m:=⟨_,rfl⟩;rw[hmm] at hm hmI ⊢;clear hmm;go_enter Tryz.func33,Tryz.ntmps33;go_wp2_with fail;go_ret2;exact⟨by congr 4 <;> go_num,rfl⟩
theorem nZ {w:World} {wide:Nat}:
  Calls Tryz.prog 78 #[.int .i64 (wide:Int)] w fun e w'=>e= .returned (.bool (cO wide))∧w=w':=by
 have e:cO wide=((wide:Int)==16||(wide:Int)==32):=by
  rw[Bool.eq_iff_iff];simp [cO];omega
 rw[e]
 by_cases h:(wide:Int)=16
 ·rw[h];go_enter Tryz.func78,Tryz.ntmps78;go_wp2_with fail;go_ret;exact⟨rfl,rfl⟩
 ·have hb:((wide:Int)==16)=false:=by simpa using h
  rw[hb];go_enter Tryz.func78,Tryz.ntmps78;go_wp2_with fail;go_ret;exact⟨rfl,rfl⟩
def SPackOut (w0:World) (F:SProp) (wide:Nat) (big:Bool) (l:List Nat) (e:Ending) (w':World):Prop:=
 ((∀ x∈l,x<2^wide)→∃ v',e= .returned (.tuple #[v',.int .i64 0])∧St w0 w' (own 5 1 v' (bF wide big l).length ((bF wide big l).map bv)*F))∧
 ((¬ ∀ x∈l,x<2^wide)→e= .returned (.tuple #[.slice none 0 0,.int .i64 7])∧St w0 w' F)
theorem SPackOut.ok {w0:World} {F:SProp} {wide:Nat} {big:Bool} {l:List Nat} {w':World} {v':Value} {Z:List UInt8} (h:∀ x∈l,x<2^wide) (hZ:Z=bF wide big l) (hs:St w0 w' (own 5 1 v' Z.length (Z.map bv)*F)):SPackOut w0 F wide big l (.returned (.tuple #[v',.int .i64 0])) w':=
 ⟨fun _=>⟨v',rfl,hZ ▸ hs⟩,fun hn=>absurd h hn⟩
theorem SPackOut.over {w0:World} {F:SProp} {wide:Nat} {big:Bool} {l:List Nat} {w':World} {k x:Nat} (hk:l[k]? =some x) (hx:¬ x<2^wide) (hs:St w0 w' F):SPackOut w0 F wide big l (.returned (.tuple #[.slice none 0 0,.int .i64 7])) w':=
 ⟨fun h=>absurd (h x (aG hk)) hx,fun _=>⟨rfl,hs⟩⟩
theorem qU {l:List Nat} {k x m:Nat} (hk:l[k]? =some x) (hx:x<m) (h:∀ y∈l.take k,y<m):∀ y∈l.take (k+1),y<m:=by
 intro y hy;rw[fY,hk,cA] at hy
 rcases hy with hy | hy
 ·exact h y hy
 ·simp at hy;subst hy;exact hx
theorem fZ {α:Type} {l:List α} {k:Nat} {x:α} (hk:l[k]? =some x):l.take (k+1)=l.take k++[x]:=by rw[fY,hk];rfl
theorem Bh {w0 w:World} {F:SProp} (h:St w0 w F) {l:List Nat} {v:Value} (hv:Stb w0 F (fun w=>Reads w 1 v l.length (l.map uv))) (hl:l.length≤4194304) (hb:∀ x∈l,x<4294967296) {wide nb:Nat} (hw:wide=16∨wide=32) (hnb:(wide:Int)/8=nb) (big:Bool):
  Calls Tryz.prog 38 #[v,.int .i64 (wide:Int),.bool big] w fun e w'=>SPackOut w0 F wide big l e w':=by
 have hW:cO wide=true:=by simpa [cO] using hw
 have hnb2:wide/8=nb:=by omega
 have hok:jc nb:=by rcases hw with rfl | rfl;exact .inr (.inl (by omega));exact .inr (.inr (.inl (by omega)))
 have hnb4:nb≤4:=by omega
 have hpow:256^nb=2^wide:=by rcases hw with rfl | rfl <;> (have:nb=2∨nb=4:=by omega) <;> rcases this with rfl | rfl <;> first | rfl | omega
 have hPL:bF wide big l=ff wide big l:=by rw[bF,if_pos hW]
 have HSZ:=ac (fun w=>mz (w:=w) hl (wide:=wide) (by omega) (by omega));have HWH:=ac (fun w=>nZ (w:=w) (wide:=wide));obtain⟨nl,hnl⟩:∃ nl,l.length=nl:=⟨_,rfl⟩;have HNL:=ac hnl;rw[hnl] at hl hv HSZ;obtain⟨a0,c0,rfl⟩:=(hv w h).sub;have HV:=ac hv;have H:=ac h;have HP:=ac hpow;have HPL:=ac hPL;have HB:=ac hb;have HOK:=ac hok;have HN2:=ac hnb2;rw[hW] at HWH;clear hpow hPL hb hok hnb2 hW hw hnl hv h;have T:=eh;obtain⟨sz,hsz⟩:∃ sz,((nl*wide+7)/8:Nat)=sz:=⟨_,rfl⟩;rw[hsz] at HSZ;clear hsz;go_enter Tryz.func38,Tryz.ntmps38;go_wp2_with (first | (go_at_call 33;refine(HSZ.out _).mono ?_;rintro e w1 ⟨rfl,rfl⟩) | (go_at_call 78;refine(HWH.out _).mono ?_;rintro e w1 ⟨rfl,rfl⟩));have h1:=H.out.lit #[] 5 0 rfl (by decide);have H1:=ac (show St w0 _ (own 5 1 (.slice (some ⟨w.heap.size,0,none⟩) 0 0) 0 []*F) from h1);clear h1;generalize w.heap.size=g0 at*
 go_loopw [10,34] (fun vo vi wr=>∃ (k:Nat) (ao:Option Addr) (co:Nat) (Z:List UInt8),k≤nl∧vi= .int .i64 k∧vo= .slice ao Z.length co∧RowKit.Hid (Z=ff wide big (l.take k)∧∀ y∈l.take k,y<2^wide)∧Z.length≤4*k∧St w0 wr (own 5 1 (.slice ao Z.length co) Z.length (Z.map bv)*F)) (fun _ vi _=>nl-(intOf vi).toNat)
 case atStart=>exact⟨0,_,0,[],Nat.zero_le _,rfl,rfl,ac ⟨rfl,fun y hy=>by simp at hy⟩,Nat.zero_le _,H1.out⟩
 case round=>
  clear H1 H HSZ HWH;obtain⟨k,ao,co,Z,hk,rfl,rfl,hZ,hZl,hst⟩:=hrel
  by_cases hkn:k<nl
  ·have hkI:(k:Int)<nl:=by omega
   obtain⟨x,hx⟩:∃ x,l[k]? =some x:=⟨l[k]'(by rw[HNL.out];exact hkn),ai _⟩;obtain⟨b,off,rfl,hc⟩:=(HV.out _ hst.right).at_ hkn;rw[au,hx,show(some x).map uv=some (.int .u32 (x:Int)) from rfl] at hc;have hx32:x<4294967296:=HB.out x (aG hx);have HX:=ac hx;clear hx
   by_cases hlt:x<2^wide
   ·have HC:=ac (tG hst (v:=x) (n:=nb) HOK.out (by rw[HP.out];exact hlt) big);have HLT:=ac hlt;have HST:=ac hst;clear hlt hst;go_wp2_with (go_at_call 83;apply ag);refine on (HC.out.mono ?_);rintro e w2 ⟨v2,rfl,h2⟩;obtain⟨a2,c2,rfl⟩:=h2.reads.sub;have h2:=h2.perm (af _ _ _);have H2:=ac h2;clear h2 HC HST;have hbo:=jV big x nb;obtain⟨Y,hY⟩:∃ Y,dx big x nb=Y:=⟨_,rfl⟩;rw[hY] at H2 hbo;have HYY:=ac hY;have HBO:=ac hbo;clear hY hbo;go_wp2_with (at_builtin;apply ag);refine on (aC T rfl _ _ rfl rfl H2.out rfl H2.out.right.reads (gx Y) (by unfold maxLen;omega) (by omega) ?_);intro v3 w3 h3 _;have h4:St w0 w3 (own 5 1 v3 (Z++Y).length ((Z++Y).map bv)*F):=by
     rw[ae,List.map_append,HBO.out];exact(h3.perm (af _ _ _)).right
    have hZn:Z++Y=ff wide big (l.take (k+1)):=by rw[fZ HX.out,ud,← hZ.out.1,HN2.out,HYY.out]
    have hZa:∀ y∈l.take (k+1),y<2^wide:=qU HX.out HLT.out hZ.out.2;have hZl2:(Z++Y).length≤4*(k+1):=by rw[ae,HBO.out];omega
    generalize Z++Y=Z2 at*
    obtain⟨a3,c3,rfl⟩:=h4.reads.sub;have HE:=ac (And.intro hZn hZa);have H4:=ac h4;clear h3 h4 hZn hZa H2 hZ hZl;go_wp2_with fail;exact⟨⟨k+1,a3,c3,Z2,by omega,by go_num,rfl,HE,hZl2,H4.out⟩,by simp [intOf];omega⟩
   ·have HC:=ac (Aa hst (v:=x) (n:=nb) HOK.out (by rw[HP.out];omega) (by omega) big);have HLT:=ac hlt;clear hlt hst;go_wp2_with (go_at_call 83;apply ag);refine on (HC.out.mono ?_);rintro e w2 ⟨rfl,h2⟩;have H2:=ac h2.right;clear h2 HC;go_wp2_with fail;go_ret2;exact SPackOut.over HX.out HLT.out H2.out
  ·obtain rfl:k=nl:=by omega
   have HST:=ac hst;clear hst;go_wp2_with fail;go_ret2;have e:l.take k=l:=by rw[← HNL.out,cI]
   refine SPackOut.ok (Z:=Z) ?_ ?_ HST.out
   ·have:=hZ.out.2;rwa [e] at this
   ·rw[hZ.out.1,e,HPL.out]
theorem Bi {w0 w:World} {F:SProp} (h:St w0 w F) {l:List Nat} {v:Value} (hv:Stb w0 F (fun w=>Reads w 1 v l.length (l.map uv))) (hl:l.length≤4194304) (hb:∀ x∈l,x<4294967296) {wide:Nat} (h1:1≤wide) (h2:wide≤32) (hW:cO wide=false) (big:Bool):
  Calls Tryz.prog 38 #[v,.int .i64 (wide:Int),.bool big] w fun e w'=>SPackOut w0 F wide big l e w':=by
 have hw32:wide<32:=by
  rcases cf wide 32 with h | h
  ·exact h
  ·obtain rfl:wide=32:=by omega
   simp [cO] at hW
 have hPL:bF wide big l=aq false (dy wide l):=by rw[bF,if_neg (by simp [hW])]
 have HSZ:=ac (fun w=>mz (w:=w) hl (wide:=wide) (by omega) (by omega));have HWH:=ac (fun w=>nZ (w:=w) (wide:=wide));have HPB:=ac (fun k=>lu wide (l.take k));obtain⟨nl,hnl⟩:∃ nl,l.length=nl:=⟨_,rfl⟩;have HNL:=ac hnl;rw[hnl] at hl hv HSZ;obtain⟨a0,c0,rfl⟩:=(hv w h).sub;have HV:=ac hv;have H:=ac h;have HPL:=ac hPL;have HB:=ac hb;rw[hW] at HWH;clear hPL hb hW hnl hv h;obtain⟨sz,hsz⟩:∃ sz,((nl*wide+7)/8:Nat)=sz:=⟨_,rfl⟩;rw[hsz] at HSZ;clear hsz;go_enter Tryz.func38,Tryz.ntmps38;go_wp2_with (first | (go_at_call 33;refine(HSZ.out _).mono ?_;rintro e w1 ⟨rfl,rfl⟩) | (go_at_call 78;refine(HWH.out _).mono ?_;rintro e w1 ⟨rfl,rfl⟩) | (go_at_call 84;apply ag));refine on ((kC (low:=false) H.out).mono ?_);rintro e w1 ⟨B,rfl,h3⟩;have H1:=ac h3;clear h3;go_wp2_with fail
 go_loopw [58] (fun vi wr=>∃ k:Nat,k≤nl∧vi= .int .i64 k∧RowKit.Hid (∀ y∈l.take k,y<2^wide)∧St w0 wr (az B (dy wide (l.take k)) false*F)) (fun vi _=>nl-(intOf vi).toNat)
 case atStart=>exact⟨0,Nat.zero_le _,rfl,ac (fun y hy=>by simp at hy),H1.out⟩
 case round=>
  clear H1 H HSZ HWH;obtain⟨k,hk,rfl,hZ,hst⟩:=hrel
  by_cases hkn:k<nl
  ·have hkI:(k:Int)<nl:=by omega
   obtain⟨x,hx⟩:∃ x,l[k]? =some x:=⟨l[k]'(by rw[HNL.out];exact hkn),ai _⟩;obtain⟨b,off,rfl,hc⟩:=(HV.out _ hst.right).at_ hkn;rw[au,hx,show(some x).map uv=some (.int .u32 (x:Int)) from rfl] at hc;have hx32:x<4294967296:=HB.out x (aG hx);have HX:=ac hx;clear hx
   by_cases hlt:x<2^wide
   ·have hml:(dy wide (l.take k)).length+32≤100000000000000:=by
     have h5:=HPB.out k;have h6:(l.take k).length*wide≤4194304*32:=dv (by rw[aJ];omega) h2;omega
    have HC:=ac (dE hst x wide h2 (fun _=>fv hlt) hx32 hml);have HZn:=ac (show dy wide (l.take k)++bi false x wide=dy wide (l.take (k+1)) by rw[fZ HX.out,ue]);have HZa:=ac (qU HX.out hlt hZ.out);clear hlt hst hml;go_wp2_with (go_at_call 85;apply ag);refine on (HC.out.mono ?_);rintro e w2 ⟨rfl,h4⟩;rw[HZn.out] at h4;have H4:=ac h4;clear h4 HC;go_wp2_with fail;exact⟨⟨k+1,by omega,by go_num,HZa,H4.out⟩,by simp [intOf];omega⟩
   ·have HC:=ac (fun w p=>Az (w:=w) p x wide hw32 (fun h0=>hlt (by have:=Nat.div_add_mod x (2^wide);have:=jv x (l8 wide);rw[h0] at *;omega)));have HLT:=ac hlt;have HST:=ac hst;clear hlt hst;go_wp2_with (go_at_call 85;apply ag);refine on ((HC.out _ _).mono ?_);rintro e w2 ⟨rfl,rfl⟩;go_wp2_with fail;go_ret2;exact SPackOut.over HX.out HLT.out HST.out.right
  ·obtain rfl:k=nl:=by omega
   have e:l.take k=l:=by rw[← HNL.out,cI]
   rw[e] at hst hZ;have HC:=ac (hU hst);clear hst;go_wp2_with (go_at_call 86;apply ag);refine on (HC.out.mono ?_);rintro e w2 ⟨v2,rfl,h4⟩;have H4:=ac (h4.perm (af _ _ _)).right;clear h4 HC;go_wp2_with fail;go_ret2;refine SPackOut.ok (Z:=aq false (dy wide l)) hZ.out HPL.out.symm ?_;rw[dm];exact H4.out
theorem ug {w0 w:World} {F:SProp} (h:St w0 w F) {l:List Nat} {v:Value} (hv:Stb w0 F (fun w=>Reads w 1 v l.length (l.map uv))) (hl:l.length≤4194304) (hb:∀ x∈l,x<4294967296) {wide:Nat} (h1:1≤wide) (h2:wide≤32) (big:Bool):
  Calls Tryz.prog 38 #[v,.int .i64 (wide:Int),.bool big] w fun e w'=>SPackOut w0 F wide big l e w':=by
 cases hW:cO wide with
 | true=>
  have hw:wide=16∨wide=32:=by simpa [cO] using hW
  exact Bh h hv hl hb hw (nb:=wide/8) (by omega) big
 | false=>exact Bi h hv hl hb h1 h2 hW big
theorem jX:ElemT Tryz.prog 22 48 1 4 (.int .u32 0):=
 ⟨Tryz.underlying22,info_parts (by kernel_rfl),rfl,by decide⟩
theorem Bj {w:World} {wide:Nat} (hw:wide=8∨wide=16∨wide=32):
  Calls Tryz.prog 131 #[.int .i64 (wide:Int)] w fun e w'=>e= .returned (.tuple #[.int .u32 ((2^wide-1:Nat):Int),.bool true])∧w=w':=by
 rcases hw with rfl | rfl | rfl
 ·go_enter Tryz.func131,Tryz.ntmps131;go_wp2_with fail;go_ret2;exact⟨rfl,rfl⟩
 ·go_enter Tryz.func131,Tryz.ntmps131;go_wp2_with fail;go_ret2;exact⟨rfl,rfl⟩
 ·go_enter Tryz.func131,Tryz.ntmps131;go_wp2_with fail;go_ret2;exact⟨rfl,rfl⟩
def n5 (m:Nat) (l:List Nat) (e:Ending):Prop:=
 ((∀ x∈l,x≤m)→e= .returned (.tuple #[.int .u32 (m:Int),.int .i64 0]))∧((¬ ∀ x∈l,x≤m)→e= .returned (.tuple #[.int .u32 0,.int .i64 7]))
theorem uh {w:World} {l:List Nat} {v:Value} (hv:Reads w 1 v l.length (l.map uv)) (hl:l.length≤4194304) {wide per m:Nat} (hw:wide=8∨wide=16∨wide=32) (hm:m=2^wide-1) (hp:1≤per) (hpl:per≤1000000) (hmod:l.length%per=0):
  Calls Tryz.prog 82 #[v,.int .i64 (per:Int),.int .i64 (wide:Int)] w fun e w'=>n5 m l e∧w=w':=by
 have HM:=ac (fun w=>Bj (w:=w) hw);rw[← hm] at HM;have hm32:m<4294967296:=by rcases hw with rfl | rfl | rfl <;> omega
 have hmI:(l.length:Int)%(per:Int)=0:=by exact_mod_cast hmod
 have hperI:(per:Int)≠0:=by omega
 have hperI1:¬ (per:Int)<1:=by omega
 obtain⟨a,cap,rfl⟩:=hv.sub;have HV:=ac hv;obtain⟨nl,hnl⟩:∃ nl,l.length=nl:=⟨_,rfl⟩;have HNL:=ac hnl;rw[hnl] at hl hmI HV ⊢;clear hw hm hmod hnl hv;go_enter Tryz.func82,Tryz.ntmps82;go_wp2_with (go_at_call 131;refine(HM.out _).mono ?_;rintro e w1 ⟨rfl,rfl⟩)
 go_loop [32] (fun vi=>∃ k:Nat,k≤nl∧vi= .int .i64 k∧RowKit.Hid (∀ y∈l.take k,y<m+1)) (fun vi=>nl-(intOf vi).toNat)
 case atStart=>exact⟨0,Nat.zero_le _,rfl,ac (fun y hy=>by simp at hy)⟩
 case round=>
  obtain⟨k,hk,rfl,hZ⟩:=hrel
  by_cases hkn:k<nl
  ·have hkI:(k:Int)<nl:=by omega
   obtain⟨x,hx⟩:∃ x,l[k]? =some x:=⟨l[k]'(by rw[HNL.out];exact hkn),ai _⟩;obtain⟨b,off,rfl,hc⟩:=HV.out.at_ hkn;rw[au,hx,show(some x).map uv=some (.int .u32 (x:Int)) from rfl] at hc
   by_cases hlt:x≤m
   ·have hltI:¬ (m:Int)<x:=by omega
    have HZ2:=ac (qU hx (m:=m+1) (by omega) hZ.out);clear hlt hx hZ;go_wp2_with fail;exact⟨⟨k+1,by omega,by go_num,HZ2⟩,by simp [intOf];omega⟩
   ·have hltI:(m:Int)<x:=by omega
    have HO:=ac (show ¬ ∀ y∈l,y≤m from fun h=>hlt (h x (aG hx)));clear hlt hx hZ;go_wp2_with fail;go_ret2;exact⟨⟨fun h=>absurd h HO.out,fun _=>rfl⟩,rfl⟩
  ·obtain rfl:k=nl:=by omega
   go_wp2_with fail;go_ret2;have hZ:=hZ.out;rw[← HNL.out,cI] at hZ;exact⟨⟨fun _=>rfl,fun h=>absurd (fun x hx=>by have:=hZ x hx;omega) h⟩,rfl⟩
def ui (w0:World) (F:SProp) (wide per:Nat) (l:List Nat) (e:Ending) (w':World):Prop:=
 ((∀ x∈l,x<2^wide)→∃ v',e= .returned (.tuple #[v',.int .i64 0])∧St w0 w' (own 48 1 v' l.length ((dp wide per l).map uv)*F))∧
 ((¬ ∀ x∈l,x<2^wide)→e= .returned (.tuple #[.slice none 0 0,.int .i64 7])∧St w0 w' F)
theorem Bl {w0 w:World} {F:SProp} (h:St w0 w F) {l:List Nat} {v:Value} (hv:Stb w0 F (fun w=>Reads w 1 v l.length (l.map uv))) (hl:l.length≤4194304) {wide per:Nat} (hw:wide=8∨wide=16∨wide=32) (hp:1≤per) (hpl:per≤1000000) (hmod:l.length%per=0):
  Calls Tryz.prog 37 #[v,.int .i64 (per:Int),.int .i64 (wide:Int)] w fun e w'=>ui w0 F wide per l e w':=by
 have hpos:=l8 wide;obtain⟨m,hm⟩:∃ m,m=2^wide-1:=⟨_,rfl⟩;have hm32:2^wide≤4294967296:=by rcases hw with rfl | rfl | rfl <;> omega
 have hm33:m<4294967296:=by omega
 have HFI:=ac (uh (hv w h) hl hw hm hp hpl hmod)
 by_cases hall:∀ x∈l,x<2^wide
 ·have hF:n5 m l=fun e=>e= .returned (.tuple #[.int .u32 (m:Int),.int .i64 0]):=by
   funext e
   have ha:∀ x∈l,x≤m:=fun x hx=>by have:=hall x hx;omega
   exact propext ⟨fun h=>h.1 ha,fun h=>⟨fun _=>h,fun hn=>absurd ha hn⟩⟩
  rw[hF] at HFI;have HD:=ac (fun(a b:Nat) (ha:a<2^wide) (hb:b<2^wide)=>Bf hw hm ha hb);have HALL:=ac hall;have hgoal:ui w0 F wide per l=fun e w'=>∃ v',e= .returned (.tuple #[v',.int .i64 0])∧St w0 w' (own 48 1 v' l.length ((dp wide per l).map uv)*F):=by
   funext e w'
   exact propext ⟨fun h=>h.1 hall,fun h=>⟨fun _=>h,fun hn=>absurd hall hn⟩⟩
  rw[hgoal];clear hF hgoal hall hw hmod;have HFA:=ac (Bd wide per l);have HLO:=ac (fun j (hj:j≤per)=>uf (wide:=wide) l j hj);have HAT:=ac (fun j i (hi:i<l.length) (hlo:i<j∨i<per)=>(iH (wide:=wide) (per:=per) (j:=j) hi).trans (by rw[if_pos hlo]));have HST:=ac (fun i (hi:i<l.length) (hp:per≤i)=>Be (wide:=wide) hi hp);have HGET:=ac (fun i (hi:i<l.length)=>show l.getD i 0<2^wide by
   rw[List.getD_eq_getElem?_getD,ai hi];exact HALL.out _ (bo hi))
  obtain⟨nl,hnl⟩:∃ nl,l.length=nl:=⟨_,rfl⟩;rw[hnl] at hl hv HAT HST HGET ⊢;rw[hnl] at HFA;clear hnl;obtain⟨a0,c0,rfl⟩:=(hv w h).sub;have H:=ac h;have HV:=ac hv;clear hv h hm hpos;have T:=jX;go_enter Tryz.func37,Tryz.ntmps37;go_wp2_with (first | (go_at_call 82;refine HFI.out.mono ?_;rintro e w1 ⟨rfl,rfl⟩) | (at_builtin;apply ag));have h1:=H.out.lit #[] 48 0 rfl (by decide);refine on (aC T rfl _ _ rfl rfl (show St w0 _ (own 48 1 (.slice (some ⟨w.heap.size,0,none⟩) 0 0) 0 []*F) from h1) rfl (HV.out _ h1.right) (nV l) (by unfold maxLen;omega) (by omega) ?_);intro v2 w2 h2 _;simp only[bQ,ba] at h2;obtain⟨a2,c2,rfl⟩:=h2.reads.sub;rw[← HFA.out] at h2;have H2:=ac h2;clear h2 h1 H HFI;go_wp2_with fail
  go_loopw [11] (fun vi wr=>∃ (j:Nat) (z:Int),j≤nl∧z=j-1∧vi= .int .i64 z∧St w0 wr (own 48 1 (.slice a2 nl c2) nl ((gC wide per l j).map uv)*F)) (fun vi _=>(intOf vi+1).toNat)
  case atStart=>exact⟨nl,(nl:Int)-1,Nat.le_refl _,rfl,by go_num,H2.out⟩
  case round=>
   clear H2;obtain⟨j,z,hj,hz,rfl,hst⟩:=hrel
   by_cases hjp:per<j
   ·obtain⟨i,rfl⟩:∃ i,j=i+1:=⟨j-1,by omega⟩;obtain rfl:z=i:=by omega
    clear hz;have hpi:(per:Int)≤i:=by omega
    obtain⟨g,rfl⟩:=bR hst (by omega);obtain⟨q,hq⟩:∃ q,i=q+per:=⟨i-per,by omega⟩;have hqi:(i:Int)-per=(q:Int):=by omega
    have ci:=hst.own_cell (i:=i) (u:= .int .u32 ((l.getD i 0:Nat):Int)) (by rw[au,HAT.out (i+1) i (by omega) (by omega)];rfl);have cq:=hst.own_cell (i:=q) (u:= .int .u32 ((l.getD q 0:Nat):Int)) (by rw[au,HAT.out (i+1) q (by omega) (by omega)];rfl);have hfz:=hst.own_free i;have hA:=HGET.out i (by omega);have hB:=HGET.out q (by omega);have hd:=HD.out _ _ hA hB;have hse:=HST.out i (by omega) (by omega);rw[show i-per=q by omega] at hse;generalize l.getD i 0=A at*
    generalize l.getD q 0=B at*
    have hA32:A<4294967296:=by omega
    have hB32:B<4294967296:=by omega
    have hin:(i:Int)<nl:=by omega
    have hqn:(q:Int)<nl:=by omega
    have hset:=hst.own_set i (uv ((A+(2^wide-B))%2^wide));rw[← ez,hse] at hset;have HSET:=ac hset;clear hset hse hst hA hB hq;generalize (A+(2^wide-B))%2^wide=D at*
    go_upto_region 8 with (fail)
    go_region
    go_wp2_with fail;exact⟨⟨i,(i:Int)-1,by omega,rfl,by go_num,HSET.out.drew⟩,by simp [intOf]⟩
   ·have hst':=hst;rw[HLO.out j (by omega)] at hst';have HR:=ac hst';have hzp:¬ (per:Int)≤z:=by omega
    clear hst hst';go_wp2_with fail;go_ret2;exact⟨_,rfl,HR.out⟩
 ·have hF:n5 m l=fun e=>e= .returned (.tuple #[.int .u32 0,.int .i64 7]):=by
   funext e
   have ha:¬ ∀ x∈l,x≤m:=fun h=>hall fun x hx=>by have:=h x hx;omega
   exact propext ⟨fun h=>h.2 ha,fun h=>⟨fun hn=>absurd hn ha,fun _=>h⟩⟩
  rw[hF] at HFI;have H:=ac h;have HALL:=ac hall;clear hF hall hv h hw hm hmod hpos;go_enter Tryz.func37,Tryz.ntmps37;go_wp2_with (first | (go_at_call 82;refine HFI.out.mono ?_;rintro e w1 ⟨rfl,rfl⟩));go_ret2;exact⟨fun h=>absurd h HALL.out,fun _=>⟨rfl,H.out⟩⟩
structure Opt where
 big:Bool
 large:Bool
 tiled:Bool
 w:Int
 h:Int
 planar:Bool
 scheme:Int
 predict:Bool
 low:Bool
 two:Bool
 every:Int
 al:Bool
 fin:Bool
 how:Int
def Opt.v (o:Opt):Value:= .agg #[.bool o.big,.bool o.large,.bool o.tiled,.int .i64 o.w,.int .i64 o.h,.bool o.planar,.int .i64 o.scheme,.bool o.predict,.bool o.low,.bool o.two,.int .i64 o.every,.bool o.al,.bool o.fin,.int .i64 o.how]
def gO (predict big:Bool) (wide per:Nat) (row:List Nat):List UInt8:=bF wide big (if predict=true then dp wide per row else row)
def cD (l:List Nat) (n y:Nat):List Nat:=(l.drop (y*n)).take n
def bV (predict big:Bool) (wide per n:Nat) (l:List Nat) (h:Nat):List (List UInt8):=(List.range h).map fun y=>gO predict big wide per (cD l n y)
theorem uj (predict big:Bool) (wide per n:Nat) (l:List Nat) (h:Nat):bV predict big wide per n l (h+1)=bV predict big wide per n l h++[gO predict big wide per (cD l n h)]:=by
 rw[bV,gX,List.map_append];rfl
theorem mA {l:List Nat} {n y:Nat} (h:y*n+n≤l.length):(cD l n y).length=n:=by
 rw[cD,aJ,bH];omega
theorem n9 {l:List Nat} {n y x:Nat} (h:x∈cD l n y):x∈l:=sX (jo h)
theorem uk (l:List Nat) (n y:Nat):l.take (y*n+n)=l.take (y*n)++cD l n y:=by rw[cD,p7]
def fh:List (Value × List UInt8)→SProp
 | []=>di
 | x::r=>own 5 1 x.1 x.2.length (x.2.map bv)*fh r
theorem ul (R:List (Value × List UInt8)) (x:Value × List UInt8):fh (R++[x])=own 5 1 x.1 x.2.length (x.2.map bv)*fh R:=by
 induction R with
 | nil=>rfl
 | cons y r ih=>rw[dB,fh,ih,fh];ac_rfl
theorem Bn {w0 w:World}:∀ (R:List (Value × List UInt8)) (F:SProp),St w0 w (fh R*F)→∀ x∈R,Reads w 1 x.1 x.2.length (x.2.map bv):=by
 intro R
 induction R with
 | nil=>intro F _ x hx;cases hx
 | cons y r ih=>
  intro F h x hx;have h:St w0 w (own 5 1 y.1 y.2.length (y.2.map bv)*(fh r*F)):=h.perm (by rw[fh,bk])
  rcases List.mem_cons.1 hx with rfl | hx
  ·exact h.reads
  ·exact ih _ h.right x hx
theorem Bo {w0 w:World} {F:SProp} (h:St w0 w F):St w0 w (fh []*F):=h.perm (eG F).symm
theorem Bp:ElemT Tryz.prog 49 32 1 24 (.slice none 0 0):=
 ⟨Tryz.underlying49,info_parts (by kernel_rfl),rfl,by decide⟩
theorem um (w:World) (v:Value):Reads (w.alloc (.cells #[v] 32)) 1 (.slice (some ⟨w.heap.size,0,none⟩) 1 1) 1 [v]:=
 (St.own_blk (e:=32) (size:=1) (n:=1) (cap:=1) (xs:=[v]) ((St.init w).alloc _) (Nat.le_refl _) (by decide) rfl rfl).reads
def aH (L:List (List UInt8)):List UInt8:=L.flatten
theorem oc {w0 w:World} {F:SProp} (h:St w0 w F) {R:List (Value × List UInt8)} {v:Value} (hv:Stb w0 F (fun w=>Reads w 1 v R.length (R.map Prod.fst))) (hr:Stb w0 F (fun w=>∀ x∈R,Reads w 1 x.1 x.2.length (x.2.map bv))) (hN:R.length≤1000000) (hL:(aH (R.map Prod.snd)).length≤1000000000):
  Calls Tryz.prog 41 #[v] w fun e w'=>∃ v',e= .returned v'∧St w0 w' (own 5 1 v' (aH (R.map Prod.snd)).length ((aH (R.map Prod.snd)).map bv)*F):=by
 obtain⟨a0,c0,rfl⟩:=(hv w h).sub;have H:=ac h;have HV:=ac hv;have HR:=ac hr;obtain⟨J,hJ⟩:∃ J,aH (R.map Prod.snd)=J:=⟨_,rfl⟩;rw[hJ] at hL ⊢;have HJ:=ac hJ;obtain⟨nr,hnr⟩:∃ nr,R.length=nr:=⟨_,rfl⟩;rw[hnr] at hN HV ⊢;have HNR:=ac hnr;clear h hv hr hJ hnr;have T:=eh;go_enter Tryz.func41,Tryz.ntmps41;go_wp2_with fail;have h1:=H.out.lit #[] 5 0 rfl (by decide);have H1:=ac (show St w0 _ (own 5 1 (.slice (some ⟨w.heap.size,0,none⟩) 0 0) 0 []*F) from h1);clear h1;generalize w.heap.size=g0 at*
 go_loopw [3,9] (fun vo vi wr=>∃ (k zl:Nat) (ao:Option Addr) (co:Nat) (Z:List UInt8),k≤nr∧vi= .int .i64 k∧vo= .slice ao zl co∧RowKit.Hid (Z=aH ((R.take k).map Prod.snd)∧Z.length=zl)∧zl≤J.length∧St w0 wr (own 5 1 (.slice ao zl co) zl (Z.map bv)*F)) (fun _ vi _=>nr-(intOf vi).toNat)
 case atStart=>exact⟨0,0,_,0,[],Nat.zero_le _,rfl,rfl,ac ⟨rfl,rfl⟩,Nat.zero_le _,H1.out⟩
 case round=>
  clear H1 H;obtain⟨k,zl,ao,co,Z,hk,rfl,rfl,hZ,hzl,hst⟩:=hrel
  by_cases hkn:k<nr
  ·have hkI:(k:Int)<nr:=by omega
   have hkR:k<R.length:=by rw[HNR.out];exact hkn
   obtain⟨x,hx⟩:∃ x,R[k]? =some x:=⟨R[k],ai _⟩;obtain⟨b,off,rfl,hc⟩:=(HV.out _ hst.right).at_ hkn;rw[au,hx] at hc;obtain⟨vx,X⟩:=x;obtain⟨ax,cx,hvx⟩:=(HR.out _ hst.right _ (aG hx)).sub;simp only at hvx;subst hvx;simp only[cB] at hc;have HX:=ac (fun w h=>(HR.out w h _ (aG hx):Reads w 1 (.slice ax X.length cx) X.length (X.map bv)));have hnew:Z++X=aH ((R.take (k+1)).map Prod.snd):=by
    rw[fZ hx,List.map_append,aH,nA,hZ.out.1,aH];simp
   have hle:(Z++X).length≤J.length:=by
    rw[hnew,← HJ.out,aH,aH];have e:R.map Prod.snd=(R.take (k+1)).map Prod.snd++(R.drop (k+1)).map Prod.snd:=by rw[← List.map_append,eQ]
    rw[e,nA,ae];omega
   rw[ae,hZ.out.2] at hle;have HNW:=ac hnew;have HST:=ac hst;obtain⟨xl,hxl⟩:∃ xl,X.length=xl:=⟨_,rfl⟩;rw[hxl] at HX hle hc;have HXL:=ac hxl;clear hnew hst hx hxl;go_wp2_with (at_builtin;apply ag);refine on (aC T rfl _ _ rfl rfl HST.out rfl (HX.out _ HST.out.right) (gx X) (by unfold maxLen;omega) (by omega) ?_);intro v3 w3 h3 _;rw[← List.map_append] at h3;have HZL:=ac (show(Z++X).length=zl+xl by rw[ae,hZ.out.2,HXL.out]);generalize Z++X=Z2 at*
   obtain⟨a3,c3,rfl⟩:=h3.reads.sub;have H3:=ac h3;clear h3 HST;go_wp2_with fail;exact⟨⟨k+1,zl+xl,a3,c3,Z2,by omega,by go_num,rfl,ac ⟨HNW.out,HZL.out⟩,hle,H3.out⟩,by simp [intOf];omega⟩
  ·obtain rfl:k=nr:=by omega
   have HST:=ac hst;clear hst;go_wp2_with fail;go_ret;have hZ:=hZ.out;rw[← HNR.out,cI,HJ.out] at hZ;refine⟨_,rfl,?_⟩;rw[← hZ.1,hZ.2];exact HST.out
def jY (W H per wide:Nat) (v:Value):Value:= .agg #[.int .i64 (W:Int),.int .i64 (H:Int),.int .i64 (per:Int),.int .i64 (wide:Int),v]
def RowsOut (w0:World) (F:SProp) (predict big:Bool) (wide per n H:Nat) (l:List Nat) (e:Ending) (w':World):Prop:=
 ((∀ x∈l,x<2^wide)→∃ v' R,e= .returned (.tuple #[v',.int .i64 0])∧R.map Prod.snd=bV predict big wide per n l H∧St w0 w' (own 32 1 v' R.length (R.map Prod.fst)*(fh R*F)))∧
 ((¬ ∀ x∈l,x<2^wide)→e= .returned (.tuple #[.slice none 0 0,.int .i64 7])∧St w0 w' F)
theorem RowsOut.over {w0:World} {F:SProp} {predict big:Bool} {wide per n H:Nat} {l:List Nat} {w':World} {y:Nat} (hx:¬ ∀ x∈cD l n y,x<2^wide) (hs:St w0 w' F):RowsOut w0 F predict big wide per n H l (.returned (.tuple #[.slice none 0 0,.int .i64 7])) w':=
 ⟨fun h=>absurd (fun x h1=>h x (n9 h1)) hx,fun _=>⟨rfl,hs⟩⟩
theorem un {w:World} {b off n c:Nat} {l:List Nat} (h:Reads w 1 (.slice (some ⟨b,off,none⟩) n c) n (l.map uv)) {i k:Nat} (hk:i+k≤n):Reads w 1 (.slice (some ⟨b,off+i,none⟩) k (c-i)) k (((l.drop i).take k).map uv):=by
 have:=kz h (i:=i) (j:=i+k) (p9 _ _) hk;rw[pX,← nw,← kn] at this;have e2:(⟨b,off,none⟩:Addr).add i=⟨b,off+i,none⟩:=by cases i <;> simp [Addr.add]
 rwa [e2] at this
theorem fy {w0 w:World} {F:SProp} (h:St w0 w F) (o0 o1:Obj):St w0 ((w.alloc o0).alloc o1) (blk (w.heap.size+1) o1*(blk w.heap.size o0*F)):=by
 have e1:(w.alloc o0).heap.size=w.heap.size+1:=gr _;have h3:=(h.alloc o0).alloc o1;rwa [e1] at h3
theorem Bq (A B C D E:SProp):A*(B*(C*(D*E)))=C*(D*(A*(B*E))):=by ac_rfl
theorem Br {w0 w:World} {F:SProp} (h:St w0 w F) {l:List Nat} {v:Value} (hv:Stb w0 F (fun w=>Reads w 1 v l.length (l.map uv))) (hb:∀ x∈l,x<4294967296) {W H per wide n:Nat} (hW:1≤W) (hW2:W≤32768) (hH:H≤32768) (hp:1≤per) (hp2:per≤8) (h1:1≤wide) (h2:wide≤32) (hn:W*per=n) (hl:H*n=l.length) (hl2:l.length≤4194304) (o:Opt) (hpr:o.predict=true→wide=8∨wide=16∨wide=32):
  Calls Tryz.prog 17 #[jY W H per wide v,o.v] w fun e w'=>RowsOut w0 F o.predict o.big wide per n H l e w':=by
 obtain⟨big,large,tiled,ow,oh,planar,scheme,predict,low,two,every,al,fin,how⟩:=o;simp only[Opt.v,jY];simp only at hpr;have hn1:1≤n:=by rw[← hn];exact dv hW hp
 have hn2:n≤262144:=by rw[← hn];exact dv hW2 hp2
 have hnI:(W:Int)*(per:Int)=(n:Int):=by rw[← hn];simp
 have hmod:n%per=0:=by rw[← hn];exact za W per
 obtain⟨L,hL⟩:∃ L,l.length=L:=⟨_,rfl⟩;rw[hL] at hl hl2 hv;obtain⟨a0,c0,rfl⟩:=(hv w h).sub;have h3:=fy h (.cells #[.int .i64 (W:Int),.int .i64 (H:Int),.int .i64 (per:Int),.int .i64 (wide:Int),.slice a0 L c0] 24) (.cells #[.bool big,.bool large,.bool tiled,.int .i64 ow,.int .i64 oh,.bool planar,.int .i64 scheme,.bool predict,.bool low,.bool two,.int .i64 every,.bool al,.bool fin,.int .i64 how] 28);have f0:=h3.right.cell 0 rfl;have f1:=h3.right.cell 1 rfl;have f2:=h3.right.cell 2 rfl;have HS:=ac h3;have HV:=ac hv;have HB:=ac hb;have HLL:=ac hL;have HN:=ac hn;clear h hv hb h3 hL hn;have T:=Bp;go_enter Tryz.func17,Tryz.ntmps17;go_wp2_with fail;have H1:=ac (St.own_nil 32 1 (Bo HS.out));clear HS f0 f1 f2;obtain⟨gp,hgp⟩:∃ gp,gp=w.heap.size:=⟨_,rfl⟩;rw[← hgp] at H1 ⊢;clear hgp;generalize (w.alloc _).alloc _=wz at*
 go_loopw [6,20] (fun vo vi wr=>∃ (y:Nat) (R:List (Value × List UInt8)) (ao:Option Addr) (co:Nat),y≤H∧vi= .int .i64 y∧vo= .slice ao y co∧RowKit.Hid (R.map Prod.snd=bV predict big wide per n l y∧R.length=y∧∀ x∈l.take (y*n),x<2^wide)∧St w0 wr (own 32 1 (.slice ao y co) y (R.map Prod.fst)*(fh R*(blk (gp+1) (.cells #[.bool big,.bool large,.bool tiled,.int .i64 ow,.int .i64 oh,.bool planar,.int .i64 scheme,.bool predict,.bool low,.bool two,.int .i64 every,.bool al,.bool fin,.int .i64 how] 28)*(blk gp (.cells #[.int .i64 (W:Int),.int .i64 (H:Int),.int .i64 (per:Int),.int .i64 (wide:Int),.slice a0 L c0] 24)*F))))) (fun _ vi _=>H-(intOf vi).toNat)
 case atStart=>exact⟨0,[],none,0,Nat.zero_le _,rfl,rfl,ac ⟨rfl,rfl,fun x hx=>by simp at hx⟩,H1.out⟩
 case round=>
  clear H1;obtain⟨y,R,ao,co,hy,rfl,rfl,hQ,hst⟩:=hrel
  by_cases hyn:y<H
  ·have hyI:(y:Int)<H:=by omega
   obtain⟨yn,hyn'⟩:∃ yn,y*n=yn:=⟨_,rfl⟩;have hle:yn+n≤L:=by rw[← hyn',← hl,← dC];exact dW _ hyn
   have hm1:(y:Int)*(n:Int)=(yn:Int):=by rw[← hyn'];simp
   have hm2:((y:Int)+1)*(n:Int)=((yn+n:Nat):Int):=by rw[Int.add_mul,hm1];simp
   obtain⟨b,off,rfl,_⟩:=(HV.out _ hst.right.right.right.right).at_ (show 0<L by omega);have hcap:=(jz (HV.out _ hst.right.right.right.right)).1;have hcy:¬ c0=yn:=by omega
   have hrl:(cD l n y).length=n:=mA (by rw[HLL.out,hyn'];exact hle);have HROW:=ac (fun w h=>show Reads w 1 (.slice (some ⟨b,off+yn,none⟩) n (c0-yn)) n ((cD l n y).map uv) by rw[cD,hyn'];exact un (HV.out w h) hle);have HRB:=ac (fun x (hx:x∈cD l n y)=>HB.out x (n9 hx));have HTK:=ac (uk l n y);have HSU:=ac (uj predict big wide per n l y);have HRL:=ac hrl;have f4:=hst.right.right.right.cell 4 rfl;have f2:=hst.right.right.right.cell 2 rfl;have f3:=hst.right.right.right.cell 3 rfl;have o0:=hst.right.right.cell 0 rfl;have o7:=hst.right.right.cell 7 rfl;have HST:=ac hst;have hynI:(yn:Int)≤(yn+n:Nat):=by omega
   have hycI:((yn+n:Nat):Int)≤c0:=by omega
   have HYN:=ac hyn';clear hrl hyn' hst;obtain⟨row,hrow⟩:∃ row,row=cD l n y:=⟨_,rfl⟩;rw[← hrow] at HROW HRB HTK HSU HRL;have HRW:=ac hrow;clear hrow;obtain⟨yn1,hyn1⟩:∃ yn1,yn+n=yn1:=⟨_,rfl⟩;rw[hyn1] at hm2 hynI hycI hle;have hsub:yn1-yn=n:=by omega
   clear hyn1;cases predict with
   | true=>
    have HD:=ac (Bl HST.out (l:=row) (v:= .slice (some ⟨b,off+yn,none⟩) n (c0-yn)) (fun w h=>by rw[HRL.out];exact HROW.out w h.right.right.right.right) (by rw[HRL.out];omega) (hpr rfl) hp (by omega) (by rw[HRL.out];exact hmod));go_wp2_with (go_at_call 37;apply ag);refine on (HD.out.mono ?_);rintro e w2 hd
    by_cases hall:∀ x∈row,x<2^wide
    ·obtain⟨v2,rfl,h2'⟩:=hd.1 hall;rw[HRL.out] at h2';obtain⟨a2,c2,rfl⟩:=h2'.reads.sub;have HALL:=ac hall;have hlt:=nY (wide:=wide) (per:=per) hall;have hpw:2^wide≤4294967296:=dX (by decide) h2;have HP:=ac (ug h2' (l:=dp wide per row) (v:= .slice a2 n c2) (fun w h=>by rw[kD,HRL.out];exact h.reads) (by rw[kD,HRL.out];omega) (fun x hx=>kp (hlt x hx) hpw) h1 h2 big);have HLT:=ac hlt;clear hall hd hlt hpw f4 f2 f3 o0 o7 HD HST;have f3:=h2'.right.right.right.right.cell 3 rfl;have o0:=h2'.right.right.right.cell 0 rfl;have HD2:=ac h2';clear h2';go_wp2_with (go_at_call 38;apply ag);refine on (HP.out.mono ?_);rintro e w3 hd;obtain⟨v3,rfl,h3⟩:=hd.1 HLT.out;clear hd f3 o0 HP HD2;obtain⟨BO,hBO⟩:∃ BO,BO=blk (gp+1) (.cells #[.bool big,.bool large,.bool tiled,.int .i64 ow,.int .i64 oh,.bool planar,.int .i64 scheme,.bool true,.bool low,.bool two,.int .i64 every,.bool al,.bool fin,.int .i64 how] 28):=⟨_,rfl⟩;obtain⟨BP,hBP⟩:∃ BP,BP=blk gp (.cells #[.int .i64 (W:Int),.int .i64 (H:Int),.int .i64 (per:Int),.int .i64 (wide:Int),.slice (some ⟨b,off,none⟩) L c0] 24):=⟨_,rfl⟩;rw[← hBO,← hBP] at h3;obtain⟨X,hX⟩:∃ X,X=bF wide big (dp wide per row):=⟨_,rfl⟩;rw[← hX] at h3;obtain⟨a3,c3,rfl⟩:=h3.reads.sub;have h4:=(h3.perm (show _=own 48 1 (.slice a2 n c2) n ((dp wide per row).map uv)*(own 32 1 (.slice ao y co) y (R.map Prod.fst)*(own 5 1 (.slice a3 X.length c3) X.length (X.map bv)*(fh R*(BO*(BP*F))))) by ac_rfl)).right;have HXX:=ac hX;obtain⟨xl,hxl⟩:∃ xl,X.length=xl:=⟨_,rfl⟩;have HXL:=ac hxl;rw[hxl] at h4 ⊢;have H4:=ac h4;clear h3 h4 hX hxl;go_wp2_with (at_builtin;apply ag);refine on (aC T rfl _ _ rfl rfl (H4.out.drop_alloc (.cells #[.slice a3 xl c3] 32)) rfl (um w3 (.slice a3 xl c3)) (by intro u hu;rw[List.mem_singleton.1 hu];rfl) (by unfold maxLen;omega) (by omega) ?_);intro v7 w7 h7 _;have h7:St w0 w7 (own 32 1 v7 (y+1) ((R++[(Value.slice a3 xl c3,X)]).map Prod.fst)*(fh (R++[(Value.slice a3 xl c3,X)])*(BO*(BP*F)))):=by
      rw[ul,List.map_append];simp only[HXL.out];exact h7.perm (by simp only[dR,ki];ac_rfl)
     have HQ2:=ac (show(R++[(Value.slice a3 xl c3,X)]).map Prod.snd=bV true big wide per n l (y+1)∧(R++[(Value.slice a3 xl c3,X)]).length=y+1∧∀ x∈l.take ((y+1)*n),x<2^wide from by
      refine⟨?_,by rw[ae,hQ.out.2.1];rfl,?_⟩
      ·rw[List.map_append,hQ.out.1,HSU.out,HXX.out,gO];simp
      ·rw[dC,HTK.out];intro x hx
       rcases cA.1 hx with hx | hx
       ·exact hQ.out.2.2 x hx
       ·exact HALL.out x hx)
     generalize R++[(Value.slice a3 xl c3,X)]=R2 at*
     obtain⟨a7,c7,rfl⟩:=h7.reads.sub;rw[hBO,hBP] at h7;have H7:=ac h7;clear h7 H4;go_wp2_with fail;exact⟨⟨y+1,R2,a7,c7,by omega,by go_num,rfl,HQ2,H7.out⟩,by simp [intOf];omega⟩
    ·obtain⟨rfl,h2'⟩:=hd.2 hall;have H2:=ac h2'.right.right.right.right;have HALL:=ac hall;clear hd hall h2' HD HST;go_wp2_with fail;go_ret2;exact RowsOut.over (by rw[← HRW.out];exact HALL.out) H2.out
   | false=>
    have HP:=ac (ug HST.out (l:=row) (v:= .slice (some ⟨b,off+yn,none⟩) n (c0-yn)) (fun w h=>by rw[HRL.out];exact HROW.out w h.right.right.right.right) (by rw[HRL.out];omega) HRB.out h1 h2 big);go_wp2_with (go_at_call 38;apply ag);refine on (HP.out.mono ?_);rintro e w3 hd
    by_cases hall:∀ x∈row,x<2^wide
    ·obtain⟨v3,rfl,h3⟩:=hd.1 hall;have HALL:=ac hall;clear hd hall f4 f2 f3 o0 o7 HP HST;obtain⟨BO,hBO⟩:∃ BO,BO=blk (gp+1) (.cells #[.bool big,.bool large,.bool tiled,.int .i64 ow,.int .i64 oh,.bool planar,.int .i64 scheme,.bool false,.bool low,.bool two,.int .i64 every,.bool al,.bool fin,.int .i64 how] 28):=⟨_,rfl⟩;obtain⟨BP,hBP⟩:∃ BP,BP=blk gp (.cells #[.int .i64 (W:Int),.int .i64 (H:Int),.int .i64 (per:Int),.int .i64 (wide:Int),.slice (some ⟨b,off,none⟩) L c0] 24):=⟨_,rfl⟩;rw[← hBO,← hBP] at h3;obtain⟨X,hX⟩:∃ X,X=bF wide big row:=⟨_,rfl⟩;rw[← hX] at h3;obtain⟨a3,c3,rfl⟩:=h3.reads.sub;have h4:=(h3.perm (show _=own 32 1 (.slice ao y co) y (R.map Prod.fst)*(own 5 1 (.slice a3 X.length c3) X.length (X.map bv)*(fh R*(BO*(BP*F)))) by ac_rfl));have HXX:=ac hX;obtain⟨xl,hxl⟩:∃ xl,X.length=xl:=⟨_,rfl⟩;have HXL:=ac hxl;rw[hxl] at h4 ⊢;have H4:=ac h4;clear h3 h4 hX hxl;go_wp2_with (at_builtin;apply ag);refine on (aC T rfl _ _ rfl rfl (H4.out.drop_alloc (.cells #[.slice a3 xl c3] 32)) rfl (um w3 (.slice a3 xl c3)) (by intro u hu;rw[List.mem_singleton.1 hu];rfl) (by unfold maxLen;omega) (by omega) ?_);intro v7 w7 h7 _;have h7:St w0 w7 (own 32 1 v7 (y+1) ((R++[(Value.slice a3 xl c3,X)]).map Prod.fst)*(fh (R++[(Value.slice a3 xl c3,X)])*(BO*(BP*F)))):=by
      rw[ul,List.map_append];simp only[HXL.out];exact h7.perm (by simp only[dR,ki];ac_rfl)
     have HQ2:=ac (show(R++[(Value.slice a3 xl c3,X)]).map Prod.snd=bV false big wide per n l (y+1)∧(R++[(Value.slice a3 xl c3,X)]).length=y+1∧∀ x∈l.take ((y+1)*n),x<2^wide from by
      refine⟨?_,by rw[ae,hQ.out.2.1];rfl,?_⟩
      ·rw[List.map_append,hQ.out.1,HSU.out,HXX.out,gO];simp
      ·rw[dC,HTK.out];intro x hx
       rcases cA.1 hx with hx | hx
       ·exact hQ.out.2.2 x hx
       ·exact HALL.out x hx)
     generalize R++[(Value.slice a3 xl c3,X)]=R2 at*
     obtain⟨a7,c7,rfl⟩:=h7.reads.sub;rw[hBO,hBP] at h7;have H7:=ac h7;clear h7 H4;go_wp2_with fail;exact⟨⟨y+1,R2,a7,c7,by omega,by go_num,rfl,HQ2,H7.out⟩,by simp [intOf];omega⟩
    ·obtain⟨rfl,h2'⟩:=hd.2 hall;have H2:=ac h2'.right.right.right.right;have HALL:=ac hall;clear hd hall h2' HP HST;go_wp2_with fail;go_ret2;exact RowsOut.over (by rw[← HRW.out];exact HALL.out) H2.out
  ·obtain rfl:y=H:=by omega
   have HST:=ac hst;clear hst;go_wp2_with fail;go_ret2;have hq:=hQ.out;rw[hl,← HLL.out,cI] at hq;refine⟨fun _=>⟨_,R,rfl,hq.1,?_⟩,fun h=>absurd hq.2.2 h⟩;rw[hq.2.1];have h5:=HST.out.perm (Bq _ _ _ _ _);exact h5.right.right
theorem Bs {w:World} {v:Value} {l:List Nat} (hv:Reads w 1 v l.length (l.map fun(k:Nat)=>Value.int .i64 (k:Int))) (hl:l.length≤1000) (x:Int):
  Calls Tryz.prog 100 #[v,.int .i64 x] w fun r w'=>(∃ i:Int,r= .returned (.int .i64 i)∧decide (0≤i)=(l.any fun(k:Nat)=>(k:Int)==x))∧w'=w:=by
 obtain⟨a,cap,rfl⟩:=hv.sub;have HV:=ac hv;clear hv;obtain⟨nn,hnn⟩:∃ nn,l.length=nn:=⟨_,rfl⟩;have HNN:=ac hnn;rw[hnn] at hl HV ⊢;clear hnn;go_enter Tryz.func100,Tryz.ntmps100;go_wp2_with fail
 go_loop [8] (fun vi=>∃ k:Nat,k≤nn∧vi= .int .i64 k∧((l.take k).any fun(k:Nat)=>(k:Int)==x)=false) (fun vi=>nn-(intOf vi).toNat)
 case atStart=>exact⟨0,by omega,rfl,rfl⟩
 case round=>
  obtain⟨k,hk,rfl,hgood⟩:=hrel
  by_cases hkn:k<nn
  ·have hkv:k<l.length:=by rw[HNN.out];exact hkn
   obtain⟨n,hn⟩:∃ n,l[k]=n:=⟨_,rfl⟩;have hx:=ai hkv;rw[hn] at hx;obtain⟨b,off,rfl,c0⟩:=HV.out.at_ hkn;rw[au,hx] at c0;simp only[cB] at c0;have hkI:(k:Int)<nn:=by omega
   have htk:l.take (k+1)=l.take k++[n]:=by rw[List.take_succ_eq_append_getElem hkv,hn]
   have hdrop:l=l.take k++n::l.drop (k+1):=by rw[← hn,← cC hkv,eQ]
   by_cases hb:(n:Int)=x
   ·have hB:=ac (show(l.any fun(k:Nat)=>(k:Int)==x)=true by rw[hdrop,zc,List.any_cons,show((n:Int)==x)=true by simpa using hb];simp);subst hb;clear htk hdrop hgood hx hn;go_wp2_with fail;go_ret;exact⟨⟨k,rfl,by rw[hB.out];simp⟩,rfl⟩
   ·have hb2:¬ x=(n:Int):=fun h=>hb h.symm
    have hg2:=ac (show((l.take (k+1)).any fun(k:Nat)=>(k:Int)==x)=false by rw[htk,zc,hgood,List.any_cons,show((n:Int)==x)=false by simpa using hb];rfl);clear htk hdrop hgood hx hn;go_wp2_with fail;exact⟨⟨k+1,by omega,by go_num,hg2.out⟩,by simp [intOf];omega⟩
  ·obtain rfl:k=nn:=by omega
   have hB:=ac (show(l.any fun(k:Nat)=>(k:Int)==x)=false by rw[← HNN.out,cI] at hgood;exact hgood);clear hgood;go_wp2_with fail;go_ret;exact⟨⟨-1,rfl,by rw[hB.out];rfl⟩,rfl⟩
theorem Bt {w:World} {v:Value} {l:List Nat} (hv:Reads w 1 v l.length (l.map fun(k:Nat)=>Value.int .i64 (k:Int))) (hl:l.length≤1000) (x:Int):
  Calls Tryz.prog 48 #[v,.int .i64 x] w fun r w'=>r= .returned (.bool (l.any fun(k:Nat)=>(k:Int)==x))∧w'=w:=by
 have HI:=ac (Bs hv hl x);obtain⟨a,cap,rfl⟩:=hv.sub;obtain⟨bb,hbb⟩:∃ bb,bb=(l.any fun(k:Nat)=>(k:Int)==x):=⟨_,rfl⟩;rw[← hbb] at HI ⊢;clear hbb hv;go_enter Tryz.func48,Tryz.ntmps48;go_wp2_with (go_at_call 100;apply ag);refine on (HI.out.mono ?_);rintro e w1 ⟨⟨i,rfl,hi⟩,rfl⟩;have HI2:=ac hi;clear hi;go_wp2_with fail;go_ret;exact⟨congrArg (fun b=>Ending.returned (.bool b)) HI2.out,rfl⟩
def oe:List Nat:=[1,2,3,4,5,8,32773,32946]
def eL (n:Int):Bool:=n==1||n==2||n==3||n==4||n==5||n==8||n==32773||n==32946
theorem Bu (n:Int):eL n=oe.any fun(k:Nat)=>(k:Int)==n:=by
 unfold eL oe;rw[Bool.eq_iff_iff];simp;omega
def ie (n:Int):Bool:=n==2||n==3||n==4
def gP (n:Int):Bool:=n==8||n==32946
theorem Bv {w0 w:World} {F:SProp} (h:St w0 w F) (n:Int):
  Calls Tryz.prog 20 #[.int .i64 n] w fun r w'=>r= .returned (.bool (eL n))∧St w0 w' F:=by
 have H:=ac (h.lit (oe.map fun(k:Nat)=>Value.int .i64 (k:Int)).toArray 3 8 (by decide) (by decide));rw[Bu];clear h;go_enter Tryz.func20,Tryz.ntmps20;go_wp2_with (first | (go_at_call 48;refine(Bt (l:=oe) H.out.reads (by decide) n).mono ?_;rintro e w1 ⟨rfl,rfl⟩));go_ret;exact⟨rfl,H.out.right⟩
theorem Bx (n:Int) (w:World):Calls Tryz.prog 21 #[.int .i64 n] w fun r w'=>r= .returned (.bool (ie n))∧w'=w:=by
 by_cases h2:n=2
 ·subst h2;go_enter Tryz.func21,Tryz.ntmps21;go_wp2_with fail;go_ret;exact⟨rfl,rfl⟩
 by_cases h3:n=3
 ·subst h3;go_enter Tryz.func21,Tryz.ntmps21;go_wp2_with fail;go_ret;exact⟨rfl,rfl⟩
 go_enter Tryz.func21,Tryz.ntmps21;go_wp2_with fail;go_ret;exact⟨by simp [ie,h2,h3],rfl⟩
theorem By (n:Int) (w:World):Calls Tryz.prog 22 #[.int .i64 n] w fun r w'=>r= .returned (.bool (gP n))∧w'=w:=by
 by_cases h2:n=8
 ·subst h2;go_enter Tryz.func22,Tryz.ntmps22;go_wp2_with fail;go_ret;exact⟨rfl,rfl⟩
 go_enter Tryz.func22,Tryz.ntmps22;go_wp2_with fail;go_ret;exact⟨by simp [gP,h2],rfl⟩
def fN (per wide n:Int) (predict two:Bool) (every how:Int):Bool:=
 eL n&&decide (1≤per)&&decide (per≤8)&&decide (1≤wide)&&decide (wide≤32)&& !(ie n&&(per != 1||wide != 1))&& !(n==3&&two&&decide (every<1))&&
  !(predict&& !(n==5||gP n))&& !(predict&&wide != 8&&wide != 16&&wide != 32)&&(!gP n||decide (0≤how)&&decide (how≤2))
def Opt.legal (o:Opt) (per wide:Int):Bool:=fN per wide o.scheme o.predict o.two o.every o.how
theorem mB {w0 w:World} {F:SProp} (h:St w0 w F) (o:Opt) (per wide:Int):
  Calls Tryz.prog 9 #[.int .i64 per,.int .i64 wide,o.v] w fun r w'=>r= .returned (.bool (o.legal per wide))∧St w0 w' F:=by
 obtain⟨big,large,tiled,ow,oh,planar,n,predict,low,two,every,al,fin,how⟩:=o;simp only[Opt.v,Opt.legal];have h0:=h.alloc (.cells #[.bool big,.bool large,.bool tiled,.int .i64 ow,.int .i64 oh,.bool planar,.int .i64 n,.bool predict,.bool low,.bool two,.int .i64 every,.bool al,.bool fin,.int .i64 how] 28);have k6:=h0.cell 6 rfl;have H:=ac h0;clear h h0
 by_cases hS:eL n=true
 by_cases a1:1≤per
 by_cases a2:per≤8
 by_cases a3:1≤wide
 by_cases a4:wide≤32
 have hn:n=1∨n=2∨n=3∨n=4∨n=5∨n=8∨n=32773∨n=32946:=by simp [eL] at hS;omega
 clear hS
 rcases hn with rfl | rfl | rfl | rfl | rfl | rfl | rfl | rfl
 cases predict;rotate_left;rotate_left
 by_cases f1:per=1
 subst f1
 by_cases f2:wide=1
 subst f2;cases predict;rotate_left;rotate_left;rotate_left;rotate_left
 by_cases f1:per=1
 subst f1
 by_cases f2:wide=1
 subst f2;cases two;cases predict;rotate_left;rotate_left
 by_cases q1:every<1
 rotate_left;have q2:1≤every:=by omega
 cases predict;rotate_left;rotate_left;rotate_left;rotate_left
 by_cases f1:per=1
 subst f1
 by_cases f2:wide=1
 subst f2;cases predict;rotate_left;rotate_left;rotate_left;rotate_left;cases predict;rotate_left
 by_cases p8:wide=8
 subst p8;rotate_left;have p8b:(wide != 8)=true:=by simpa using p8
 by_cases p16:wide=16
 subst p16;rotate_left;have p16b:(wide != 16)=true:=by simpa using p16
 by_cases p32:wide=32
 subst p32;rotate_left;have p32b:(wide != 32)=true:=by simpa using p32
 rotate_left;cases predict
 by_cases g1:0≤how
 have g1b:decide (0≤how)=true:=decide_eq_true g1
 by_cases g2:how≤2
 have g2b:decide (how≤2)=true:=decide_eq_true g2;rotate_left;have g2b:decide (how≤2)=false:=decide_eq_false g2;rotate_left;have g1b:decide (0≤how)=false:=decide_eq_false g1;rotate_left
 by_cases p8:wide=8
 subst p8
 by_cases g1:0≤how
 have g1b:decide (0≤how)=true:=decide_eq_true g1
 by_cases g2:how≤2
 have g2b:decide (how≤2)=true:=decide_eq_true g2;rotate_left;have g2b:decide (how≤2)=false:=decide_eq_false g2;rotate_left;have g1b:decide (0≤how)=false:=decide_eq_false g1;rotate_left;have p8b:(wide != 8)=true:=by simpa using p8
 by_cases p16:wide=16
 subst p16
 by_cases g1:0≤how
 have g1b:decide (0≤how)=true:=decide_eq_true g1
 by_cases g2:how≤2
 have g2b:decide (how≤2)=true:=decide_eq_true g2;rotate_left;have g2b:decide (how≤2)=false:=decide_eq_false g2;rotate_left;have g1b:decide (0≤how)=false:=decide_eq_false g1;rotate_left;have p16b:(wide != 16)=true:=by simpa using p16
 by_cases p32:wide=32
 subst p32
 by_cases g1:0≤how
 have g1b:decide (0≤how)=true:=decide_eq_true g1
 by_cases g2:how≤2
 have g2b:decide (how≤2)=true:=decide_eq_true g2;rotate_left;have g2b:decide (how≤2)=false:=decide_eq_false g2;rotate_left;have g1b:decide (0≤how)=false:=decide_eq_false g1;rotate_left;have p32b:(wide != 32)=true:=by simpa using p32
 rotate_left;cases predict;rotate_left;rotate_left;cases predict
 by_cases g1:0≤how
 have g1b:decide (0≤how)=true:=decide_eq_true g1
 by_cases g2:how≤2
 have g2b:decide (how≤2)=true:=decide_eq_true g2;rotate_left;have g2b:decide (how≤2)=false:=decide_eq_false g2;rotate_left;have g1b:decide (0≤how)=false:=decide_eq_false g1;rotate_left
 by_cases p8:wide=8
 subst p8
 by_cases g1:0≤how
 have g1b:decide (0≤how)=true:=decide_eq_true g1
 by_cases g2:how≤2
 have g2b:decide (how≤2)=true:=decide_eq_true g2;rotate_left;have g2b:decide (how≤2)=false:=decide_eq_false g2;rotate_left;have g1b:decide (0≤how)=false:=decide_eq_false g1;rotate_left;have p8b:(wide != 8)=true:=by simpa using p8
 by_cases p16:wide=16
 subst p16
 by_cases g1:0≤how
 have g1b:decide (0≤how)=true:=decide_eq_true g1
 by_cases g2:how≤2
 have g2b:decide (how≤2)=true:=decide_eq_true g2;rotate_left;have g2b:decide (how≤2)=false:=decide_eq_false g2;rotate_left;have g1b:decide (0≤how)=false:=decide_eq_false g1;rotate_left;have p16b:(wide != 16)=true:=by simpa using p16
 by_cases p32:wide=32
 subst p32
 by_cases g1:0≤how
 have g1b:decide (0≤how)=true:=decide_eq_true g1
 by_cases g2:how≤2
 have g2b:decide (how≤2)=true:=decide_eq_true g2;rotate_left;have g2b:decide (how≤2)=false:=decide_eq_false g2;rotate_left;have g1b:decide (0≤how)=false:=decide_eq_false g1;rotate_left;have p32b:(wide != 32)=true:=by simpa using p32
 rotate_left;rotate_left;rotate_left;rotate_left;rotate_left;have hS0:eL n=false:=by simpa using hS
 rotate_left
 all_goals
  generalize hV:fN _ _ _ _ _ _ _=V;have HV:=ac hV;clear hV;go_enter Tryz.func9,Tryz.ntmps9;go_wp2_with (first | (go_at_call 20;refine(Bv H.out _).mono ?_;rintro e w1 ⟨rfl,h1⟩;have k6:=h1.cell 6 rfl;have k7:=h1.cell 7 rfl;have k9:=h1.cell 9 rfl;have k10:=h1.cell 10 rfl;have k13:=h1.cell 13 rfl;have H1:=ac h1;clear h1) | (go_at_call 21;refine(Bx _ _).mono ?_;rintro e w2 ⟨rfl,rfl⟩) | (go_at_call 22;refine(By _ _).mono ?_;rintro e w3 ⟨rfl,rfl⟩));go_ret;exact⟨congrArg (fun b=>Ending.returned (.bool b)) (by rw[← HV.out];first | (simp [fN,eL,ie,gP];done) | (simp [fN,eL,ie,gP];omega) | (simp [fN,eL,ie,gP, *];done) | (simp [fN,eL,ie,gP, *];omega) | (simp [fN, *];done)),H1.out.right⟩
theorem Bz {wide per:Nat} {l:List Nat} {j:Nat} (hj:l.length≤j):gC wide per l j=l:=by
 apply iA;intro i
 by_cases hi:i<l.length
 ·rw[iH hi,if_pos (.inl (by omega)),List.getD_eq_getElem?_getD];simp [hi]
 ·rw[bg (by rw[iG];omega),bg (by omega)]
theorem BC {wide per:Nat} {l:List Nat} {j:Nat} (hj:j<l.length):(gC wide per l j).set j (l.getD j 0)=gC wide per l (j+1):=by
 apply iA;intro k
 by_cases hk:k<l.length
 ·rw[iH hk]
  by_cases h:k=j
  ·subst h;rw[jt (by rw[iG];exact hk),if_pos (by omega)]
  ·rw[ju (by omega),iH hk]
   congr 1
   by_cases h2:k<j∨k<per
   ·rw[if_pos h2,if_pos (by omega)]
   ·rw[if_neg h2,if_neg (by omega)]
 ·rw[bg (by rw[eE,iG];omega),bg (by rw[iG];omega)]
theorem BD {a b wide m:Nat} (hw:wide=8∨wide=16∨wide=32) (hm:m=2^wide-1) (ha:a<2^wide) (hb:b<2^wide):
  bits .and .u32 ((((a+(2^wide-b))%2^wide:Nat)+(b:Int))%4294967296) (m:Int)=(a:Int):=by
 obtain⟨x,hx⟩:∃ x:Nat,(x:Int)=(((a+(2^wide-b))%2^wide:Nat)+(b:Int))%4294967296:=⟨(((((a+(2^wide-b))%2^wide:Nat)+(b:Int))%4294967296).toNat),by omega⟩;rw[← hx,u32_and_nat x m (by omega) (by rcases hw with rfl | rfl | rfl <;> omega),hm,Jy]
 rcases hw with rfl | rfl | rfl <;> (congr 1;omega)
theorem BE {w0 w:World} {F:SProp} (h:St w0 w F) {l:List Nat} {v:Value} {wide per:Nat} (hv:Stb w0 F (fun w=>Reads w 1 v l.length ((dp wide per l).map uv))) (hl:l.length≤4194304) (hall:∀ x∈l,x<2^wide) (hw:wide=8∨wide=16∨wide=32) (hp:1≤per) (hpl:per≤1000000) (hmod:l.length%per=0):
  Calls Tryz.prog 36 #[v,.int .i64 (per:Int),.int .i64 (wide:Int)] w fun e w'=>∃ v',e= .returned (.tuple #[v',.int .i64 0])∧St w0 w' (own 48 1 v' l.length (l.map uv)*F):=by
 have hpos:=l8 wide;obtain⟨m,hm⟩:∃ m,m=2^wide-1:=⟨_,rfl⟩;have hm32:2^wide≤4294967296:=by rcases hw with rfl | rfl | rfl <;> omega
 have hm33:m<4294967296:=by omega
 have hdl:=kD wide per l;have hdlt:=nY (wide:=wide) (per:=per) hall;have HFI:=ac (uh (l:=dp wide per l) (by rw[hdl];exact hv w h) (by rw[hdl];exact hl) hw hm hp hpl (by rw[hdl];exact hmod));have hF:n5 m (dp wide per l)=fun e=>e= .returned (.tuple #[.int .u32 (m:Int),.int .i64 0]):=by
  funext e
  have ha:∀ x∈dp wide per l,x≤m:=fun x hx=>by have:=hdlt x hx;omega
  exact propext ⟨fun h=>h.1 ha,fun h=>⟨fun _=>h,fun hn=>absurd ha hn⟩⟩
 rw[hF] at HFI;have HD:=ac (fun(a b:Nat) (ha:a<2^wide) (hb:b<2^wide)=>BD hw hm ha hb);have HALL:=ac hall;have HGE:=ac (fun j (hj:l.length≤j)=>Bz (wide:=wide) (per:=per) hj);have HLO:=ac (uf (wide:=wide) l per (Nat.le_refl _));have HAT:=ac (fun j i (hi:i<l.length)=>(iH (wide:=wide) (per:=per) (j:=j) hi));have HST:=ac (fun j (hj:j<l.length)=>BC (wide:=wide) (per:=per) hj);have HGET:=ac (fun i (hi:i<l.length)=>show l.getD i 0<2^wide by
  rw[List.getD_eq_getElem?_getD,ai hi];exact HALL.out _ (bo hi))
 have HUV:=ac (nV (dp wide per l));have HDL:=ac hdl;obtain⟨nl,hnl⟩:∃ nl,l.length=nl:=⟨_,rfl⟩;rw[hnl] at hl hv HAT HST HGET HGE HDL ⊢;clear hnl hF hdl hdlt hall hmod hm;obtain⟨a0,c0,rfl⟩:=(hv w h).sub;have H:=ac h;have HV:=ac hv;clear hv h hpos;have T:=jX;go_enter Tryz.func36,Tryz.ntmps36;go_wp2_with (first | (go_at_call 82;refine HFI.out.mono ?_;rintro e w1 ⟨rfl,rfl⟩) | (at_builtin;apply ag));have h1:=H.out.lit #[] 48 0 rfl (by decide);refine on (aC T rfl _ _ rfl rfl (show St w0 _ (own 48 1 (.slice (some ⟨w.heap.size,0,none⟩) 0 0) 0 []*F) from h1) rfl (HV.out _ h1.right) HUV.out (by unfold maxLen;omega) (by omega) ?_);intro v2 w2 h2 _;simp only[bQ,ba] at h2;obtain⟨a2,c2,rfl⟩:=h2.reads.sub;rw[← HLO.out] at h2;have H2:=ac h2;clear h2 h1 H HFI HLO HUV;go_wp2_with fail
 go_loopw [11] (fun vi wr=>∃ (j:Nat),per≤j∧(j≤nl∨j=per)∧vi= .int .i64 j∧St w0 wr (own 48 1 (.slice a2 nl c2) nl ((gC wide per l j).map uv)*F)) (fun vi _=>nl-(intOf vi).toNat)
 case atStart=>exact⟨per,Nat.le_refl _,.inr rfl,rfl,H2.out⟩
 case round=>
  clear H2;obtain⟨j,hpj,hj,rfl,hst⟩:=hrel
  by_cases hjn:j<nl
  ·obtain⟨g,rfl⟩:=bR hst (by omega);obtain⟨q,hq⟩:∃ q,j=q+per:=⟨j-per,by omega⟩;have hqi:(j:Int)-per=(q:Int):=by omega
   have cj:=hst.own_cell (i:=j) (u:= .int .u32 (((l.getD j 0+(2^wide-l.getD q 0))%2^wide:Nat):Int)) (by rw[au,HAT.out j j (by omega),if_neg (by omega),show j-per=q by omega];rfl);have cq:=hst.own_cell (i:=q) (u:= .int .u32 ((l.getD q 0:Nat):Int)) (by rw[au,HAT.out j q (by omega),if_pos (by omega)];rfl);have hfz:=hst.own_free j;have hA:=HGET.out j (by omega);have hB:=HGET.out q (by omega);have hd:=HD.out _ _ hA hB;have hse:=HST.out j (by omega);have hset:=hst.own_set j (uv (l.getD j 0));rw[← ez,hse] at hset;generalize l.getD j 0=A at*
   generalize l.getD q 0=B at*
   have hDl:(A+(2^wide-B))%2^wide<2^wide:=jv _ (by omega);generalize (A+(2^wide-B))%2^wide=D at*
   have hB32:B<4294967296:=by omega
   have hD32:D<4294967296:=by omega
   have hin:(j:Int)<nl:=by omega
   have hqn:(q:Int)<nl:=by omega
   have HSET:=ac hset;clear hset hse hst hA hB hq hDl;go_upto_region 8 with (fail)
   go_region
   go_wp2_with fail;exact⟨⟨j+1,by omega,by omega,by go_num,HSET.out.drew⟩,by simp [intOf];omega⟩
  ·rw[HGE.out j (by omega)] at hst;have HR:=ac hst;have hzp:¬ (j:Int)<nl:=by omega
   clear hst;go_wp2_with fail;go_ret2;exact⟨_,rfl,HR.out⟩
theorem uo {w:World} {wide:Nat} (h2:wide≤32):
  Calls Tryz.prog 50 #[.int .i64 (wide:Int)] w fun e w'=>e= .returned (.int .i64 ((2^wide:Nat):Int))∧w'=w:=by
 go_enter Tryz.func50,Tryz.ntmps50;go_wp2_with fail
 go_loopw [3,4] (fun va vi wr=>∃ k m:Nat,k≤wide∧vi= .int .i64 (k:Int)∧va= .int .i64 (m:Int)∧RowKit.Hid (m=2^k)∧m≤4294967296∧wr=w) (fun _ vi _=>wide-(intOf vi).toNat)
 case atStart=>exact⟨0,1,Nat.zero_le _,rfl,rfl,ac rfl,by decide,rfl⟩
 case round=>
  obtain⟨k,m,hk,rfl,rfl,hm,hm2,rfl⟩:=hrel
  by_cases hkn:k<wide
  ·have hkI:(k:Int)<wide:=by omega
   have HM:=ac (show m*2=2^(k+1) by rw[hm.out,df]);have hm4:m*2≤4294967296:=by
    rw[HM.out];exact dX (n:=2) (by decide) (by omega:k+1≤32)
   go_wp2_with fail;exact⟨⟨k+1,m*2,by omega,by go_num,by go_num,HM,hm4,by first | rfl | trivial⟩,by simp [intOf];omega⟩
  ·obtain rfl:k=wide:=by omega
   go_wp2_with fail;go_ret;exact⟨by rw[← hm.out];rfl,rfl⟩
theorem BF {w0 w:World} {F:SProp} (h:St w0 w F) {l:List Nat} {v:Value} (hv:Stb w0 F (fun w=>Reads w 1 v l.length (l.map uv))) (hl:l.length≤100000) {wide per:Nat} (hw:wide=8∨wide=16∨wide=32) (hp:1≤per) (hp2:per≤1000000) (hmod:l.length%per=0) (hall:∀ x∈l,x<2^wide):
  Calls Tryz.prog 49 #[v,.int .i64 (per:Int),.int .i64 (wide:Int)] w fun e w'=>e= .returned (.int .i64 0)∧St w0 w' F:=by
 obtain⟨a0,c0,rfl⟩:=(hv w h).sub;obtain⟨L,hL⟩:∃ L,l.length=L:=⟨_,rfl⟩;rw[hL] at hv hl hmod ⊢;have HRN:=ac (fun(w:World)=>uo (w:=w) (wide:=wide) (by omega));have hmI:(L:Int)%(per:Int)=0:=by omega
 obtain⟨M,hM⟩:∃ M,2^wide=M:=⟨_,rfl⟩;have hM2:M≤4294967296:=by rw[← hM];rcases hw with rfl | rfl | rfl <;> decide
 rw[hM] at hall HRN;have HV:=ac hv;have HLL:=ac hL;have HALL:=ac hall;have H:=ac h;clear hv hL hall h hmod hM
 rcases hw with rfl | rfl | rfl
 all_goals
  go_enter Tryz.func49,Tryz.ntmps49;go_wp2_with fail
  go_loopw [7] (fun vi wr=>∃ k:Nat,k≤L∧vi= .int .i64 (k:Int)∧St w0 wr F) (fun vi _=>L-(intOf vi).toNat)
  case atStart=>exact⟨0,Nat.zero_le _,rfl,H.out⟩
  case round=>
   clear H;obtain⟨k,hk,rfl,hst⟩:=hrel
   by_cases hkn:k<L
   ·have hkI:(k:Int)<L:=by omega
    obtain⟨x,hx⟩:∃ x,l[k]? =some x:=⟨l[k]'(by rw[HLL.out];exact hkn),ai _⟩;obtain⟨b,off,rfl,hc⟩:=(HV.out _ hst).at_ hkn;rw[au,hx] at hc;replace hc:wr.cell? ⟨b,off+k,none⟩=some (.int .u32 (x:Int)):=hc;have hxw:=HALL.out x (aG hx);have hge:¬ (x:Int) ≥ (M:Int):=by omega
    have HST:=ac hst;clear hst hx;go_upto_region 6 with (fail)
    go_quiet ((go_at_call 50;exact Calls.quiet_of_same (HRN.out _)));have h8:=HST.out.drewN nq;clear hc;generalize wr.drewN nq=w8 at*
    have H8:=ac h8;clear h8 HST;go_wp2_with fail;exact⟨⟨k+1,by omega,by go_num,H8.out⟩,by simp [intOf];omega⟩
   ·obtain rfl:k=L:=by omega
    have HST:=ac hst;clear hst;go_wp2_with fail;go_ret;exact⟨rfl,HST.out⟩
theorem uq (w:World) (c:Nat):Reads (w.alloc (.cells #[.int .u32 (c:Int)] 48)) 1 (.slice (some ⟨w.heap.size,0,none⟩) 1 1) 1 [.int .u32 (c:Int)]:=
 (St.own_blk (e:=48) (size:=1) (n:=1) (cap:=1) (xs:=[.int .u32 (c:Int)]) ((St.init w).alloc _) (Nat.le_refl _) (by decide) rfl rfl).reads
theorem BG {wide per:Nat} {l:List Nat} {i x:Nat} (hx:l[i]? =some x):(dp wide per l)[i]? =some (if i<per then x else(x+(2^wide-l.getD (i-per) 0))%2^wide):=by
 have hi:i<l.length:=by
  rcases cf i l.length with h | h
  ·exact h
  ·rw[bg h] at hx;cases hx
 rw[dp,iH hi,List.getD_eq_getElem?_getD,hx];simp
theorem BH {w0 w:World} {F:SProp} (h:St w0 w F) {l:List Nat} {v:Value} (hv:Stb w0 F (fun w=>Reads w 1 v l.length (l.map uv))) (hl:l.length≤100000) {wide per:Nat} (hw:wide=8∨wide=16∨wide=32) (hp:1≤per) (hp2:per≤1000000) (hmod:l.length%per=0) (hall:∀ x∈l,x<2^wide):
  Calls Tryz.prog 23 #[v,.int .i64 (per:Int),.int .i64 (wide:Int)] w fun e w'=>∃ v',e= .returned (.tuple #[v',.int .i64 0])∧St w0 w' (own 48 1 v' l.length ((dp wide per l).map uv)*F):=by
 have HF:=ac (BF h hv hl hw hp hp2 hmod hall);obtain⟨a0,c0,rfl⟩:=(hv w h).sub;obtain⟨L,hL⟩:∃ L,l.length=L:=⟨_,rfl⟩;have HRN:=ac (fun(w:World)=>uo (w:=w) (wide:=wide) (by omega));obtain⟨M,hM⟩:∃ M,2^wide=M:=⟨_,rfl⟩;have hM2:M≤4294967296:=by rw[← hM];rcases hw with rfl | rfl | rfl <;> decide
 have hDL:(dp wide per l).length=L:=by rw[kD,hL]
 have HDA:=ac (fun i x (hx:l[i]? =some x)=>BG (wide:=wide) (per:=per) hx);obtain⟨DL,hD⟩:∃ D,dp wide per l=D:=⟨_,rfl⟩;rw[hD] at hDL HDA ⊢;rw[hL] at hv hl HF ⊢;rw[hM] at hall HRN HDA;have HV:=ac hv;have HLL:=ac hL;have HALL:=ac hall;have HDL:=ac hDL;clear hv hL hall h hmod hM hDL hD hw;have T:=jX;go_enter Tryz.func23,Tryz.ntmps23;go_wp2_with (go_at_call 49;refine HF.out.mono ?_;rintro e w1 ⟨rfl,h1⟩;have H1:=ac (St.own_nil 48 1 h1);clear h1 HF)
 go_loopw [9,10] (fun vo vi wr=>∃ (k:Nat) (ao:Option Addr) (co:Nat),k≤L∧vi= .int .i64 (k:Int)∧vo= .slice ao k co∧St w0 wr (own 48 1 (.slice ao k co) k ((DL.take k).map uv)*F)) (fun _ vi _=>L-(intOf vi).toNat)
 case atStart=>exact⟨0,none,0,Nat.zero_le _,rfl,rfl,H1.out⟩
 case round=>
  clear H1;obtain⟨k,ao,co,hk,rfl,rfl,hst⟩:=hrel
  by_cases hkn:k<L
  ·have hkI:(k:Int)<L:=by omega
   obtain⟨x,hx⟩:∃ x,l[k]? =some x:=⟨l[k]'(by rw[HLL.out];exact hkn),ai _⟩;have hd:=HDA.out k x hx;obtain⟨b,off,rfl,hc⟩:=(HV.out _ hst.right).at_ hkn;rw[au,hx] at hc;replace hc:wr.cell? ⟨b,off+k,none⟩=some (.int .u32 (x:Int)):=hc;have hxw:=HALL.out x (aG hx)
   by_cases hkp:k<per
   ·have hkpI:¬ (k:Int) ≥ (per:Int):=by omega
    rw[if_pos hkp] at hd;have HTK:=ac (show DL.take (k+1)=DL.take k++[x] from fZ hd);have hxu:IntKind.u32.wrap (x:Int)=(x:Int):=IntWalk.u32_in _ (by omega);have HST:=ac hst;clear hst hx hd;go_wp2_with (at_builtin;apply ag);refine on (aC T rfl _ _ rfl rfl (HST.out.drop_alloc _) rfl (uq _ x) (by intro u hu;rw[List.mem_singleton.1 hu];rfl) (by unfold maxLen;omega) (by omega) ?_);intro v4 w4 h4 _;have h4:St w0 w4 (own 48 1 v4 (k+1) ((DL.take (k+1)).map uv)*F):=by rw[HTK.out,List.map_append];exact h4
    obtain⟨a4,c4,rfl⟩:=h4.reads.sub;have H4:=ac h4;clear h4 HST;go_wp2_with fail;exact⟨⟨k+1,a4,c4,by omega,by go_num,rfl,H4.out⟩,by simp [intOf];omega⟩
   ·have hkpI:(k:Int) ≥ (per:Int):=by omega
    rw[if_neg hkp] at hd;obtain⟨y,hy⟩:∃ y,l[k-per]? =some y:=⟨l[k-per]'(by rw[HLL.out];omega),ai _⟩;obtain⟨b',off',ee,hcy⟩:=(HV.out _ hst.right).at_ (show k-per<L by omega);cases ee;rw[au,hy] at hcy;replace hcy:wr.cell? ⟨b,off+(k-per),none⟩=some (.int .u32 (y:Int)):=hcy;have hyw:=HALL.out y (aG hy);rw[List.getD_eq_getElem?_getD,hy] at hd;simp only[iB] at hd;obtain⟨z,hz⟩:∃ z,(x+(M-y))%M=z:=⟨_,rfl⟩;rw[hz] at hd;have hzM:z<M:=by rw[← hz];exact jv _ (by omega)
    have hzI:((x:Int)-(y:Int)+(M:Int))%(M:Int)=(z:Int):=by
     rw[show(x:Int)-(y:Int)+(M:Int)=((x+(M-y):Nat):Int) by omega,← hz];simp
    have HTK:=ac (show DL.take (k+1)=DL.take k++[z] from fZ hd);have hxu:IntKind.u32.wrap (z:Int)=(z:Int):=IntWalk.u32_in _ (by omega);have hkm:(k:Int)-(per:Int)=((k-per:Nat):Int):=by omega
    have hk0:((k-per:Nat):Int)<L:=by omega
    have hMne:(M:Int)≠0:=by omega
    have HST:=ac hst;clear hst hx hd hy hz;go_upto_region 10 with (fail)
    go_quiet ((go_at_call 50;exact Calls.quiet_of_same (HRN.out _)));have h8:=HST.out.drewN nq;clear hc hcy;generalize wr.drewN nq=w8 at*
    have H8:=ac h8;clear h8 HST;go_wp2_with (at_builtin;apply ag);refine on (aC T rfl _ _ rfl rfl (H8.out.drop_alloc _) rfl (uq _ z) (by intro u hu;rw[List.mem_singleton.1 hu];rfl) (by unfold maxLen;omega) (by omega) ?_);intro v4 w4 h4 _;have h4:St w0 w4 (own 48 1 v4 (k+1) ((DL.take (k+1)).map uv)*F):=by rw[HTK.out,List.map_append];exact h4
    obtain⟨a4,c4,rfl⟩:=h4.reads.sub;have H4:=ac h4;clear h4 H8;go_wp2_with fail;exact⟨⟨k+1,a4,c4,by omega,by go_num,rfl,H4.out⟩,by simp [intOf];omega⟩
  ·obtain rfl:k=L:=by omega
   have hs:=hst;rw[← HDL.out,cI,HDL.out] at hs;have HST:=ac hs;clear hst hs;go_wp2_with fail;go_ret2;exact⟨_,rfl,HST.out⟩
end Go.Proofs.YtboflbdniogcdaaGreatDoor
