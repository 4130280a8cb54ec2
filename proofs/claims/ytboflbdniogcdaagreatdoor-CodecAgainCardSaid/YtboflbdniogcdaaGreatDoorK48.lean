/-
  Parts of a proof.
-/
import Derived.Test.YtboflbdniogcdaaGreatDoorK00
import Derived.Test.YtboflbdniogcdaaGreatDoorK02
import Derived.Test.YtboflbdniogcdaaGreatDoorK44
import Derived.Test.YtboflbdniogcdaaGreatDoorK45
import Derived.Test.YtboflbdniogcdaaGreatDoorK41
import Derived.Great.Walk
import Derived.Deep.MidRow
import Derived.Test.YtboflbdniogcdaaGreatDoorK47
set_option linter.unusedVariables false
set_option linter.unusedSimpArgs false
set_option maxRecDepth 100000
set_option maxHeartbeats 100000000
namespace Go.Proofs.YtboflbdniogcdaaGreatDoor.cagain
open Go.RowKit Go.Mz Go.Proofs.YtboflbdniogcdaaGreatDoor
theorem Kx {w:World} (h:Lib.TabIs Tryz.prog w "strings.asciiSpace" .u8 Lib.asciiSpaceTab):dA w (Mz.old w):=fun w' s=>by
 have B:Below w.heap.size w w':=(s.perm ((cV _).symm.trans (fS _ _))).below;unfold Lib.TabIs World.var? at h ⊢;cases hg:Tryz.prog.globalNamed "strings.asciiSpace" with
 | none=>rw[hg] at h;simp at h
 | some g=>
  rw[hg] at h;simp only[Option.bind_some] at h ⊢;have hlt:g<w.heap.size:=by
   rcases bV g w.heap.size with h' | h'
   ·exact h'
   ·simp [kE h'] at h
  rw[B.block g hlt];exact h
theorem tab24 {w:World} (h:Lib.TabIs Tryz.prog w "strings.asciiSpace" .u8 Lib.asciiSpaceTab):dA w (old w):=Kx h
theorem Kz {P:Program} {ops:Array Oper} {rest:List Oper} {o:Oper} {a:Act} {w:World} {Q:Exit→Act→World→Prop} (hg:o.guard=none) (t e:TypeId) (len:Nat) (parts:Array (Nat × Operand)) (ho:o.op= .buildSlice t len parts)
  (N:Nat) (hN:w.heap.size=N) (dst:Option Tmp) (hdst:o.dst=dst) (hu:P.underlying t=some (.slice e)) (cells:Array Value)
  (hf:P.builtSlice e len (parts.map fun(i,x)=>(i,a.eval x)).toList=some cells)
  (h:wpList P ops Q rest (a.put dst (.slice (some ⟨N,0,none⟩) len len)) (w.alloc (.cells cells e))):wpList P ops Q (o::rest) a w:=
 Great.wpList_buildSliceTo hg t e len parts ho N hN dst hdst hu cells hf h
theorem KA {w0 w:World} {A B C D E:SProp} (h:St w0 w (A*(B*(C*(D*E))))):St w0 w (A*(B*(C*D))):=by
 have h':=h.perm (show _=(A*(B*(C*D)))*E by ac_rfl);exact h'.left
theorem KB {P:Program} {ops:Array Oper} {rest:List Oper} {op:Oper} {a:Act} {w:World} {Q:Exit→Act→World→Prop} (hgd:op.guard=none) (ty:TypeId) (x:Operand) (ho:op.op= .load ty x)
  {b o:Nat} {cs:Array Value} (hc:w.rangeAt b o cs.toList) (hx:a.eval x= .pointer (some ⟨b,o,none⟩)) {d:TypeDesc}
  (hu:P.underlying ty=some d) (hd:d.isRow=true) (hi:(P.info? ty).map (·.size)=some cs.size)
  (h:wpList P ops Q rest (a.put op.dst (.agg cs)) w):wpList P ops Q (op::rest) a w:=
 wpList_load_mid hgd ty x ho b o hx cs.toList d hc hu hd hi h
theorem _root_.Go.Proofs.YtboflbdniogcdaaGreatDoor.TellS.len24 {o:Opt} {W:Nat} {L:List (List UInt8)} {z:List UInt8} (h:TellS o W L z) (hN:L.length≤30) (hJ:(aK L).length≤10000) (hw:W≤60) (hfx:o.scheme=2∨o.scheme=3∨o.scheme=4→∀ X∈L,(W+7)/8≤X.length):z.length≤90000000∧(o.scheme=2→z.length≤900000):=by
 have hcl:(cB W L).length=L.length:=by rw[cB,bS]
 rcases h with ⟨_,rfl⟩ | ⟨_,rfl⟩ | ⟨_,hw,x,_,_,hx,rfl⟩ | ⟨_,h⟩ | ⟨e,rfl⟩ | ⟨e,rfl⟩ | ⟨e,rfl⟩
 ·omega
 ·rw[dq];have:=rV (aK L);omega
 ·simp only[aO,ae,dq,kX];omega
 ·have:=h.len;omega
 ·have:=Ab (by omega:W≤32768) (cB W L) [] (mK (by omega) (hfx (by omega)));rw[dq];simp only[bI] at this;omega
 ·have:=xV (by omega:W≤400) (two:=o.two) (al:=o.al) (every:=o.every) (cB W L) 0 [] [] (mK (by omega) (hfx (by omega))) ⟨List.Pairwise.nil,fun x hx=>by cases hx⟩;have h2:=Ac o.two o.al o.fin (dC W o.two o.al o.every 0 [] (cB W L) []);rw[dq,fe];simp only[bI] at this;omega
 ·have:=xR (by omega:W≤400) (cB W L) [] (mK (by omega) (hfx (by omega))) ⟨List.Pairwise.nil,fun x hx=>by cases hx⟩;have h2:gO.length=24:=by decide
  rw[dq,gt,ae];omega
def pcB (B:List UInt8):Option Value→Option Value→Option Value→SProp
 | _,_,some v=>own 5 1 v (0+B.length+3) ([]++B.map bv++[bv 1,bv 2,bv 3])
 | _,some v,none=>own 5 1 v (0+B.length) ([]++B.map bv)
 | some v,none,none=>own 5 1 v 0 []
 | none,none,none=>bw
def pc3:Option Value→SProp
 | some v=>own 5 1 v 3 [bv 1,bv 2,bv 3]
 | none=>bw
def oB:Value→Nat
 | .pointer (some a)=>a.block
 | _=>0
def oC:Obj:= .cells #[.int .i64 0,.int .i64 0,.int .i64 0,.int .i64 0,.slice none 0 0] 24
def um:Value→Array Value
 | .agg ys=>ys
 | _=>#[]
def pc19:Option Value→Option Value→Option Value→SProp
 | some v,some _,some x=>blk (oB v) (.cells (um x) 24)
 | some v,_,_=>blk (oB v) oC
 | none,_,_=>bw
def tup (W H p d:Int) (v:Value):Value:= .tuple #[.agg #[.int .i64 W,.int .i64 H,.int .i64 p,.int .i64 d,v],.int .i64 0]
def KC:Value→Value
 | .agg ys=>(ys[4]?).getD undef
 | _=>undef
def Ap:Value→Value
 | .tuple xs=>KC ((xs[0]?).getD undef)
 | _=>undef
def pc15 (n:Nat) (C:List Value):Option Value→SProp
 | some v=>own 48 1 (Ap v) n C
 | none=>bw
structure Inv9 (w0:World) (B:List UInt8) (n:Nat) (C:List Value) (W H p d:Int) (A:SProp) (σ:Nat→Option Value) (w:World):Prop where
 st:St w0 w (pcB B (σ 0) (σ 2) (σ 4)*(pc3 (σ 3)*(pc19 (σ 19) (σ 20) (σ 17)*(pc15 n C (σ 15)*A))))
 c2:σ 0=none→σ 2=none
 c4:σ 2=none→σ 4=none
 c17:σ 17=none→σ 20=none
 c19:σ 19=none→σ 20=none
 f19:∀ v,σ 19=some v→∃ g,v= .pointer (some ⟨g,0,none⟩)
 f15:∀ v,σ 15=some v→∃ x,v=tup W H p d x
 f16:∀ v,σ 16=some v→σ 15=some v
 f17:∀ v,σ 17=some v→∃ x,σ 15=some (tup W H p d x)∧v= .agg #[.int .i64 W,.int .i64 H,.int .i64 p,.int .i64 d,x]
 f18:∀ v,σ 18=some v→v= .int .i64 0
theorem KD (args:Array Value) (w:World):(callFunc 14 args).run Tryz.prog w= .ok (.enter 14 args) w:=t9 Tryz.func14 (by kernel_rfl) rfl args w
theorem nn {α:Type} {x:α} {p:Prop} (h:some x=none):p:=by cases h
def qT:Opt:=⟨false,false,false,0,0,false,0,false,false,false,0,false,false,0⟩
def gi (o1 o2:Opt):Array Value:=((ba o1).toList++(ba o2).toList).toArray
theorem KE (o1 o2:Opt) {k j:Nat} (hk:k<2) (hj:j<14):(gi o1 o2)[k*14+j]? =(ba (if k=0 then o1 else o2))[j]? :=by
 have h1:(ba o1).toList.length=14:=rfl;unfold gi;rw[lI]
 rcases(by omega:k=0∨k=1) with rfl | rfl
 ·rw[bK (by omega)];simp
 ·rw[ck (by omega),h1,show 1*14+j-14=j by omega];simp
theorem walk (y:PartI) (o1 o2:Opt) (w:World) (hy:PartIn w y) (htab:Lib.TabIs Tryz.prog w "strings.asciiSpace" .u8 Lib.asciiSpaceTab):
  Calls Tryz.prog 4 #[y.val,o1.v,o2.v] w fun e w'=>e= .returned (.bool true)∧Below w.heap.size w w':=by
 obtain⟨W,H,per,wide,a0,c0,l⟩:=y;obtain⟨hrd,hlt,hiW,hiH,hip,hiw⟩:=hy;simp only at hrd hlt hiW hiH hip hiw;simp only[PartI.val];have hrd':=Stb.of_old hrd;have HT:=ac (tab24 htab);have fin':∀ w',St w w' (old w)→Below w.heap.size w w':=fun w' h=>(h.perm ((cV _).symm.trans (fS _ _))).below
 have HF:=ac fin';obtain⟨L,hL⟩:∃ L,l.length=L:=⟨_,rfl⟩;rw[hL] at hrd' ⊢;have h3:=(fD (St.init w) (.cells #[.int .i64 W,.int .i64 H,.int .i64 per,.int .i64 wide,.slice a0 L c0] 24) (.cells (ba o1) 28)).alloc (.cells (ba o2) 28);have hz3:∀ o0 o1:Obj,((w.alloc o0).alloc o1).heap.size=w.heap.size+1+1:=fun o0 o1=>(jK _).trans (congrArg (· +1) (jK _))
 rw[hz3] at h3;rw[show o1.v= .agg (ba o1) from rfl,show o2.v= .agg (ba o2) from rfl];have h4:=h3.perm (show _=blk w.heap.size (.cells #[.int .i64 W,.int .i64 H,.int .i64 per,.int .i64 wide,.slice a0 L c0] 24)*(blk (w.heap.size+1) (.cells (ba o1) 28)*(blk (w.heap.size+1+1) (.cells (ba o2) 28)*old w)) by ac_rfl);have HLV:=ac (fun(P:Obj) (w':World) (h:St w w' (blk w.heap.size P*(blk (w.heap.size+1) (.cells (ba o1) 28)*(blk (w.heap.size+1+1) (.cells (ba o2) 28)*old w))))=>Ah h (fun w' h=>HT.out w' h.right.right.right))
 by_cases hok:uh W H per
 rotate_left
 ·have HFB:=ac (JW (wide:=wide) (a0:=a0) (L:=L) (c0:=c0) h4 hok);have H4:=ac h4;clear h3 h4 hz3 hrd hlt fin' htab;go_enter Tryz.func4,Tryz.ntmps4;go_wp2_with (first
   | (go_at_call 7;refine(HLV.out _ _ H7.out).mono ?_;rintro e w8 ⟨rfl,h8⟩;have H8:=ac h8;clear h8 H7)
   | (go_at_call 7;refine(HLV.out _ _ H6.out).mono ?_;rintro e w7 ⟨rfl,h7⟩;have H7:=ac h7;clear h7 H6)
   | (refine mJ rfl 24 _ _ rfl H5.out rfl rfl (by show _=some 5;kernel_rfl) rfl rfl ?_)
   | (go_at_call 6;refine HFB.out.mono ?_;rintro e w5 ⟨rfl,h5⟩;have H5:=ac h5;have H6:=ac (h5.setRow #[.int .i64 W,.int .i64 H,.int .i64 per,.int .i64 wide,.slice a0 L c0]);clear h5 HFB H4)
   | (refine fq rfl 24 _ rfl H4.out rfl Tryz.underlying24 rfl (by show _=some 5;kernel_rfl) ?_))
  go_ret;exact⟨rfl,HF.out _ H8.out.right.right.right⟩
 have hok':=hok;obtain⟨b0,b1,b2,b3,b4,b5,b6⟩:=hok;obtain⟨Wn,rfl⟩:=oQ (show 0≤W by omega);obtain⟨Hn,rfl⟩:=oQ (show 0≤H by omega);obtain⟨pn,rfl⟩:=oQ (show 0≤per by omega);obtain⟨n,hn⟩:∃ n,Wn*Hn*pn=n:=⟨_,rfl⟩;have hn2:n≤1500:=by
  have:((Wn*Hn*pn:Nat):Int)≤1500:=by simpa using b6
  omega
 have HFO:=ac (JX (wide:=wide) (l:=l) (v:= .slice a0 L c0) h4 (by rw[hL];exact fun w' h=>hrd' w' h.right.right.right) hlt hok' hn);have HCL:=ac (JV (wide:=wide) (n:=n) hlt);have HCN:=ac (JU l wide n);generalize ec l wide n=C at*
 have H4:=ac h4;clear h3 h4 hz3 hrd hlt fin' htab hrd' hok';go_enter Tryz.func4,Tryz.ntmps4;go_wp2_with (first
  | (go_at_call 7;refine(HLV2.out _ H6.out).mono ?_;rintro e w7 ⟨rfl,h7⟩;have H7:=ac h7;have H7':=ac (h7.perm (show _=blk (w.heap.size+1) (.cells (ba o1) 28)*(blk (w.heap.size+1+1) (.cells (ba o2) 28)*(blk w.heap.size (.cells #[.int .i64 (Wn:Int),.int .i64 (Hn:Int),.int .i64 (pn:Int),.int .i64 wide,.slice a1 n c1] 24)*(own 48 1 (.slice a1 n c1) n (C.map uv)*old w))) by ac_rfl));clear h7 H6)
  | (refine fq rfl 28 _ rfl H7'.out rfl Tryz.underlying28 rfl (by show _=some 14;kernel_rfl) ?_)
  | (refine fq rfl 28 _ rfl (H7'.out.perm (ak _ _ _)) rfl Tryz.underlying28 rfl (by show _=some 14;kernel_rfl) ?_)
  | (refine Kz rfl 43 28 2 _ rfl _ rfl _ rfl Tryz.underlying43 (gi o1 o2) (by kernel_rfl) ?_;have h8:=H7.out.alloc (.cells (gi o1 o2) 28);obtain⟨b,hb⟩:∃ b,w7.heap.size=b:=⟨_,rfl⟩;rw[hb] at h8 ⊢;generalize w7.alloc (.cells (gi o1 o2) 28)=w8 at *;have h8':=h8.perm (show _=blk b (.cells (gi o1 o2) 28)*(blk w.heap.size (.cells #[.int .i64 (Wn:Int),.int .i64 (Hn:Int),.int .i64 (pn:Int),.int .i64 wide,.slice a1 n c1] 24)*(own 48 1 (.slice a1 n c1) n (C.map uv)*(old w*(blk (w.heap.size+1) (.cells (ba o1) 28)*blk (w.heap.size+1+1) (.cells (ba o2) 28))))) by ac_rfl);have h9:=(KA h8').perm (by first | rfl | ac_rfl);have H8:=ac h9;clear h8 h8' h9 hb H7 H7' HLV HLV2 H5)
  | (refine mJ rfl 24 _ _ rfl H5.out rfl rfl (by show _=some 5;kernel_rfl) rfl rfl ?_)
  | (go_at_call 6;refine HFO.out.mono ?_;rintro e w5 ⟨v1,rfl,h5⟩;obtain⟨a1,c1,rfl⟩:=h5.reads.sub;have h5':=h5.perm (ak _ _ _);have H5:=ac h5';have H6:=ac (h5'.setRow #[.int .i64 (Wn:Int),.int .i64 (Hn:Int),.int .i64 (pn:Int),.int .i64 wide,.slice a1 n c1]);have HLV2:=ac (fun(w':World) (h:St w w' (blk w.heap.size (.cells #[.int .i64 (Wn:Int),.int .i64 (Hn:Int),.int .i64 (pn:Int),.int .i64 wide,.slice a1 n c1] 24)*(own 48 1 (.slice a1 n c1) n (C.map uv)*(blk (w.heap.size+1) (.cells (ba o1) 28)*(blk (w.heap.size+1+1) (.cells (ba o2) 28)*old w)))))=>Ah h (fun w' h=>HT.out w' h.right.right.right.right));clear h5 h5' HFO H4)
  | (refine fq rfl 24 _ rfl H4.out rfl Tryz.underlying24 rfl (by show _=some 5;kernel_rfl) ?_))
 go_loopw [30] (fun vi wr=>∃ k:Nat,k≤2∧vi= .int .i64 k∧St w wr (blk b (.cells (gi o1 o2) 28)*(blk w.heap.size (.cells #[.int .i64 (Wn:Int),.int .i64 (Hn:Int),.int .i64 (pn:Int),.int .i64 wide,.slice a1 n c1] 24)*(own 48 1 (.slice a1 n c1) n (C.map uv)*old w)))) (fun vi _=>2-(intOf vi).toNat)
 case atStart=>exact⟨0,by omega,rfl,H8.out⟩
 clear H8 w8 w7 w5
 case round=>
  obtain⟨k,hk,rfl,h9⟩:=hrel;have H9:=ac h9;clear h9
  by_cases hk2:k<2
  rotate_left
  ·obtain rfl:k=2:=by omega
   go_wp2_with fail;go_ret;exact⟨rfl,HF.out _ H9.out.right.right.right⟩
  have hkI:(k:Int)<2:=by omega
  obtain⟨o,ho⟩:∃ o,(if k=0 then o1 else o2)=o:=⟨_,rfl⟩;have hrg:wr.rangeAt b (k*14) (ba o).toList:=by
   intro j v hv;have hj:j<14:=by
    have:=(cG.1 hv).1;exact this
   rw[H9.out.cells,KE o1 o2 hk2 hj,ho,← KL];exact hv
  have HRG:=ac hrg;clear hrg ho;go_wp2_with (first
   | ((refine KB rfl 28 _ rfl HRG.out rfl Tryz.underlying28 rfl (by show _=some 14;kernel_rfl) ?_);refine Great.wpList_allocTo rfl _ rfl (.pointer (some ⟨wr.heap.size,0,none⟩)) (.cells (ba qT) 28) (by kernel_rfl) ?_;refine mJ rfl 28 _ _ rfl (H9.out.alloc (.cells (ba qT) 28)) rfl rfl (by show _=some 14;kernel_rfl) rfl rfl ?_;have h10:=(H9.out.alloc (.cells (ba qT) 28)).setRow (ba o);obtain⟨q,hq⟩:∃ q,wr.heap.size=q:=⟨_,rfl⟩;rw[hq] at h10 ⊢;generalize (wr.alloc (.cells (ba qT) 28)).setRow q (ba o)=w10 at *;have H10:=ac (h10.perm (show _=blk w.heap.size (.cells #[.int .i64 (Wn:Int),.int .i64 (Hn:Int),.int .i64 (pn:Int),.int .i64 wide,.slice a1 n c1] 24)*(blk q (.cells (ba o) 28)*(blk b (.cells (gi o1 o2) 28)*(own 48 1 (.slice a1 n c1) n (C.map uv)*old w))) by ac_rfl));have H10':=ac (h10.perm (show _=blk q (.cells (ba o) 28)*(blk w.heap.size (.cells #[.int .i64 (Wn:Int),.int .i64 (Hn:Int),.int .i64 (pn:Int),.int .i64 wide,.slice a1 n c1] 24)*(blk b (.cells (gi o1 o2) 28)*(own 48 1 (.slice a1 n c1) n (C.map uv)*old w))) by ac_rfl));clear h10 hq H9)
   | (go_at_call 8;apply ap)
   | (refine fq rfl 24 _ rfl H10.out rfl Tryz.underlying24 rfl (by show _=some 5;kernel_rfl) ?_)
   | (refine fq rfl 28 _ rfl H10'.out rfl Tryz.underlying28 rfl (by show _=some 14;kernel_rfl) ?_))
  have h10:=H10.out;have HT10:dA w (blk w.heap.size (.cells #[.int .i64 (Wn:Int),.int .i64 (Hn:Int),.int .i64 (pn:Int),.int .i64 wide,.slice a1 n c1] 24)*(blk q (.cells (ba o) 28)*(blk b (.cells (gi o1 o2) 28)*(own 48 1 (.slice a1 n c1) n (C.map uv)*old w)))):=fun w' h=>HT.out w' h.right.right.right.right
  have hcan:fs (Wn:Int) (Hn:Int) (pn:Int)=true:=by
   simp [fs];omega
  cases hleg:o.legal (pn:Int) wide with
  | false=>
   have HPK:=JT (wide:=wide) (a0:=a1) (L:=n) (c0:=c1) h10 o hcan (by rw[← hn];simp) hleg;rw[show o.v= .agg (ba o) from rfl] at HPK;refine on (HPK.mono ?_);rintro e w11 ⟨rfl,h11⟩;have h12:=(h11.perm (show _=blk q (.cells (ba o) 28)*(blk b (.cells (gi o1 o2) 28)*(blk w.heap.size (.cells #[.int .i64 (Wn:Int),.int .i64 (Hn:Int),.int .i64 (pn:Int),.int .i64 wide,.slice a1 n c1] 24)*(own 48 1 (.slice a1 n c1) n (C.map uv)*old w))) by ac_rfl)).right;have H12:=ac h12;clear h10 HT10 HPK h11 h12 H10 H10' HRG;go_wp2_with fail;exact⟨⟨k+1,by omega,by go_num,H12.out⟩,by simp [intOf];omega⟩
  | true=>
   obtain⟨g1,g2,g3,g4,g5,g6,g7,g8,g9⟩:=qQ hleg;obtain⟨wn,rfl⟩:=oQ (show 0≤wide by omega);have hCn:=HCN.out;have hall:∀ x∈C,x<2^wn:=fun x hx=>by
    have:=(HCL.out x hx).2 (by omega) (by omega);simpa using this
   have hl:Hn*(Wn*pn)=C.length:=by rw[hCn,← hn];simp only[iM,m4,iL]
   have HPK:=Ae h10 HT10 (l:=C) (v:= .slice a1 n c1) (W:=Wn) (H:=Hn) (per:=pn) (wide:=wn) (fun w' h=>by rw[hCn];exact h.right.right.right.reads) (fun x hx=>(HCL.out x hx).1) hl (by omega) (by omega) (by omega) o hcan hleg;rw[show o.v= .agg (ba o) from rfl] at HPK;simp only[jO] at HPK;refine on (HPK.mono ?_);rintro e w11 hd;obtain⟨v6,z,rfl,hz,h11⟩:=hd.1 hall;obtain⟨B,hB⟩:∃ B,(if o.low=true then z.map db else z)=B:=⟨_,rfl⟩;have hBz:B.length=z.length:=by rw[← hB];split <;> simp
   rw[hB,← hBz] at h11;have hmem:=mM (predict:=o.predict) (big:=o.big) (wide:=wn) (per:=pn) hl;have hJl:(aK (dH o.predict o.big wn pn (Wn*pn) C Hn)).length=Hn*((Wn*pn*wn+7)/8):=by rw[mL hmem,lE]
   have hwp:1≤Wn*pn:=eS (by omega:1≤Wn) (by omega:1≤pn);have hzl:=TellS.len24 hz (by rw[lE];omega) (by
    rw[hJl];have e1:Hn*((Wn*pn*wn+7)/8)≤Hn*(4*(Wn*pn)+1):=jm _ (by have:Wn*pn*wn≤Wn*pn*32:=jm _ (by omega);omega);have e2:Hn*(4*(Wn*pn)+1)=4*(Hn*(Wn*pn))+Hn:=by rw[m3,m4];omega
    rw[hl,hCn] at e2;omega) (by omega) (fun _ X hX=>by
    rw[hmem X hX];have e1:Wn*1≤Wn*pn:=jm _ (by omega);have e2:Wn*pn*1≤Wn*pn*wn:=jm _ (by omega);omega)
   have hop:∀ (W':World) (v:Value) (G:SProp),St w W' (own 5 1 v (0+B.length+3) ([]++B.map bv++[bv 1,bv 2,bv 3])*(G*old w))→
     Calls Tryz.prog 14 #[v,.agg #[.int .i64 (Wn:Int),.int .i64 (Hn:Int),.int .i64 (pn:Int),.int .i64 (wn:Int),.slice none 0 0],.agg (ba o)] W' fun e w'=>∃ v',e= .returned (.tuple #[.agg #[.int .i64 (Wn:Int),.int .i64 (Hn:Int),.int .i64 (pn:Int),.int .i64 (wn:Int),v'],.int .i64 0])∧St w w' (own 48 1 v' n (C.map uv)*(own 5 1 v (0+B.length+3) ([]++B.map bv++[bv 1,bv 2,bv 3])*(G*old w))):=fun W' v G h=>by
    have e1:(B++[1,2,3]:List UInt8).length=0+B.length+3:=by simp
    have e2:(B++[1,2,3]:List UInt8).map bv=[]++B.map bv++[bv 1,bv 2,bv 3]:=by simp
    have hz3:(z++[1,2,3]:List UInt8).length=z.length+3:=by simp
    have C1:=Ag h (fun w h=>HT.out w h.right.right) (l:=C) (W:=Wn) (H:=Hn) (per:=pn) (wide:=wn) hl (by omega) (by omega) (by omega) hall o hcan hleg hz (t:=[1,2,3]) (by rw[hz3];omega) (fun hs=>by rw[hz3];have:=hzl.2 hs;omega) (vb:=v) (vp:= .slice none 0 0) (by rw[hB,e1,e2];exact fun w h=>h.reads);rw[show o.v= .agg (ba o) from rfl] at C1;simp only[jO] at C1;refine C1.mono ?_;rintro e w' ⟨v',rfl,h'⟩;rw[hCn] at h';exact⟨v',rfl,h'⟩
   have HOP:=ac hop;obtain⟨a6,c6,rfl⟩:=h11.reads.sub;have hB9:B.length≤90000000:=by rw[hBz];exact hzl.1
   have H11:=ac h11;clear h11 hop hzl hmem hJl hwp hB hBz hz hd HPK h10 HT10 hcan hleg g1 g2 g3 g4 g5 g6 g7 g8 g9 hl H10 H10' HRG;obtain⟨A,hA⟩:∃ A,A=(own 5 1 (.slice a6 B.length c6) B.length (B.map bv)*(blk w.heap.size (.cells #[.int .i64 (Wn:Int),.int .i64 (Hn:Int),.int .i64 (pn:Int),.int .i64 (wn:Int),.slice a1 n c1] 24)*(blk q (.cells (ba o) 28)*(blk b (.cells (gi o1 o2) 28)*(own 48 1 (.slice a1 n c1) n (C.map uv)*old w))))):=⟨_,rfl⟩;have hd0:=H11.out.drew;rw[← hA] at hd0;have HRD:=ac (fun(w':World) (G:SProp) (h:St w w' (G*A))=>by
    rw[hA] at h;exact(show Reads w' 1 (.slice a6 B.length c6) B.length (B.map bv) from h.right.reads))
   have hSof:∀ (w':World) (G:SProp),St w w' (G*A)→∃ F,St w w' (blk w.heap.size (.cells #[.int .i64 (Wn:Int),.int .i64 (Hn:Int),.int .i64 (pn:Int),.int .i64 (wn:Int),.slice a1 n c1] 24)*(blk q (.cells (ba o) 28)*F)):=fun w' G h=>by
    rw[hA] at h;exact⟨_,h.right.right⟩
   have HSOF:=ac hSof;have HOA:=ac (show ∃ G,A=G*old w from⟨own 5 1 (.slice a6 B.length c6) B.length (B.map bv)*(blk w.heap.size (.cells #[.int .i64 (Wn:Int),.int .i64 (Hn:Int),.int .i64 (pn:Int),.int .i64 (wn:Int),.slice a1 n c1] 24)*(blk q (.cells (ba o) 28)*(blk b (.cells (gi o1 o2) 28)*own 48 1 (.slice a1 n c1) n (C.map uv)))),by rw[hA];ac_rfl⟩);have HA:=ac hA;clear hA hSof H11;go_upto_region 9 with (fail)
   refine wp_region_noPanic ?_;refine io (S:=fun w':World=>∃ F,St w w' (blk w.heap.size (.cells #[.int .i64 (Wn:Int),.int .i64 (Hn:Int),.int .i64 (pn:Int),.int .i64 (wn:Int),.slice a1 n c1] 24)*(blk q (.cells (ba o) 28)*F))) (k:=21) (by kernel_rfl) ?_;have hS:(fun w':World=>∃ F,St w w' (blk w.heap.size (.cells #[.int .i64 (Wn:Int),.int .i64 (Hn:Int),.int .i64 (pn:Int),.int .i64 (wn:Int),.slice a1 n c1] 24)*(blk q (.cells (ba o) 28)*F))) w11.drew:=HSOF.out _ bw (hd0.perm (cV _).symm);refine ay 1 rfl (by kernel_rfl) rfl (fun _ _ _ h=>h) (by assumption) ⟨?_,fun w=> ?_,?_⟩;rotate_left
   ·(go_simp;try with_reducible rfl)
   simp only[Act.put,sA,sZ,sS];refine ay 5 rfl (by kernel_rfl) rfl (fun _ _ _ h=>h) (by assumption) ⟨?_,fun w=> ?_,?_⟩;rotate_left
   ·(go_simp;try with_reducible rfl)
   simp only[Act.put,sA,sZ,sS];refine ay 7 rfl (by kernel_rfl) rfl (fun _ _ _ h=>h) (by assumption) ⟨?_,fun w=> ?_,?_⟩;rotate_left
   ·(go_simp;try with_reducible rfl)
   simp only[Act.put,sA,sZ,sS];refine ay 9 rfl (by kernel_rfl) rfl (fun _ _ _ h=>h) (by assumption) ⟨?_,fun w=> ?_,?_⟩;rotate_left
   ·(go_simp;try with_reducible rfl)
   simp only[Act.put,sA,sZ,sS];refine ay 11 rfl (by kernel_rfl) rfl (fun _ _ _ h=>h) (by assumption) ⟨?_,fun w=> ?_,?_⟩;rotate_left
   ·(go_simp;try with_reducible rfl)
   simp only[Act.put,sA,sZ,sS];refine dG 6 rfl (by kernel_rfl) rfl (fun _ _ _ h=>h) (by assumption) ⟨?_,fun w9 hSw=> ?_,?_⟩;rotate_left
   ·(obtain⟨F9,hF9⟩:=hSw;have f9:=hF9.cell 0 rfl;clear hF9;go_simp;try with_reducible rfl)
   simp only[Act.put,sA,sZ,sS];refine dG 8 rfl (by kernel_rfl) rfl (fun _ _ _ h=>h) (by assumption) ⟨?_,fun w9 hSw=> ?_,?_⟩;rotate_left
   ·(obtain⟨F9,hF9⟩:=hSw;have f9:=hF9.cell 1 rfl;clear hF9;go_simp;try with_reducible rfl)
   simp only[Act.put,sA,sZ,sS];refine dG 10 rfl (by kernel_rfl) rfl (fun _ _ _ h=>h) (by assumption) ⟨?_,fun w9 hSw=> ?_,?_⟩;rotate_left
   ·(obtain⟨F9,hF9⟩:=hSw;have f9:=hF9.cell 2 rfl;clear hF9;go_simp;try with_reducible rfl)
   simp only[Act.put,sA,sZ,sS];refine dG 12 rfl (by kernel_rfl) rfl (fun _ _ _ h=>h) (by assumption) ⟨?_,fun w9 hSw=> ?_,?_⟩;rotate_left
   ·(obtain⟨F9,hF9⟩:=hSw;have f9:=hF9.cell 3 rfl;clear hF9;go_simp;try with_reducible rfl)
   simp only[Act.put,sA,sZ,sS];refine ay 13 rfl (by kernel_rfl) rfl (fun _ _ _ h=>h) (by assumption) ⟨?_,fun w=> ?_,?_⟩;rotate_left
   ·(go_simp;try with_reducible rfl)
   simp only[Act.put,sA,sZ,sS];refine uT (i:=14) (oi:= ?_) (v:= .agg (ba o)) ?_ (by kernel_rfl) (by kernel_rfl) (by kernel_rfl) (by kernel_rfl) (by kernel_rfl) (fun _ _ _ h=>h.elim) (by assumption) (.inl ⟨?_,fun w9 hSw=> ?_⟩) ?_;rotate_left 1
   ·(simp only[lI,dE,lL];rfl)
   ·rfl
   ·(obtain⟨F9,hF9⟩:=hSw;exact Kw 28 (.tmp 9) rfl hF9.right rfl Tryz.underlying28 rfl (by show _=some 14;kernel_rfl))
   simp only[Act.put,sA,sZ,sS];refine Ku (Inv9 w B n (C.map uv) Wn Hn pn wn A) [0,2,3,4,15,16,17,18,19,20] 76 (fun σ w' h=>HSOF.out w' (pcB B (σ 0) (σ 2) (σ 4)*(pc3 (σ 3)*(pc19 (σ 19) (σ 20) (σ 17)*pc15 n (C.map uv) (σ 15)))) (h.st.perm (by ac_rfl))) (by kernel_rfl) rfl ?_ 1 rfl ?_ ?_
   ·intro i hi σ a W9 K hσ hw hsz9 hev hval hI hK;obtain⟨hst,hc2,hc4,hc17,hc19,hf19,hf15,hf16,hf17,hf18⟩:=hI;have e44:a.eval (.tmp 44)= .slice a6 B.length c6:=hev 44 (by decide);have e56:a.eval (.tmp 56)= .agg #[.int .i64 (Wn:Int),.int .i64 (Hn:Int),.int .i64 (pn:Int),.int .i64 (wn:Int),.slice none 0 0]:=hev 56 (by decide);have e57:a.eval (.tmp 57)= .agg (ba o):=hev 57 (by decide);clear hev;simp only[List.mem_cons,AO,or_false] at hi
    rcases hi with rfl | rfl | rfl | rfl | rfl | rfl | rfl | rfl | rfl | rfl
    ·have h2:=hc2 hσ;have h4:=hc4 h2;rw[hσ,h2,h4] at hst;have hst:St w W9 (bw*(pc3 (σ 3)*(pc19 (σ 19) (σ 20) (σ 17)*(pc15 n (C.map uv) (σ 15)*A)))):=hst;rw[cV] at hst;have hl:=hst.lit #[] 5 0 rfl (by decide);refine kD rfl rfl (v:= .slice (some ⟨W9.heap.size,0,none⟩) 0 0) (w':=W9.alloc (.cells #[] 5)) (by kernel_rfl) (hK _ _ ⟨?_,fun h=>nn h,hc4,hc17,hc19,hf19,hf15,hf16,hf17,hf18⟩);show St w _ (pcB B (some _) (σ 2) (σ 4)*(pc3 (σ 3)*(pc19 (σ 19) (σ 20) (σ 17)*(pc15 n (C.map uv) (σ 15)*A))));rw[h2,h4];exact hl
    ·obtain⟨v0,h0⟩:=jG.1 (hw 0 (by decide) (by kernel_rfl));have h4:=hc4 hσ;rw[h0,hσ,h4] at hst;refine An cP rfl rfl (.tmp 43) (.tmp 44) rfl (hval 0 v0 h0 (by kernel_rfl)) hst e44 (HRD.out W9 (own 5 1 v0 0 []*(pc3 (σ 3)*(pc19 (σ 19) (σ 20) (σ 17)*pc15 n (C.map uv) (σ 15)))) (hst.perm (by simp only[pcB];ac_rfl))) (dN B) (by unfold maxLen;omega) (by omega) fun v' w' h=>hK _ _ ⟨?_,fun h=>nn (h0.symm.trans h),fun h=>nn h,hc17,hc19,hf19,hf15,hf16,hf17,hf18⟩
     show St w _ (pcB B (σ 0) (some _) (σ 4)*(pc3 (σ 3)*(pc19 (σ 19) (σ 20) (σ 17)*(pc15 n (C.map uv) (σ 15)*A))));rw[h0,h4];exact h
    ·rw[hσ] at hst;have hst:St w W9 (pcB B (σ 0) (σ 2) (σ 4)*(bw*(pc19 (σ 19) (σ 20) (σ 17)*(pc15 n (C.map uv) (σ 15)*A)))):=hst;rw[cV] at hst;have hl:=hst.lit #[.int .u8 1,.int .u8 2,.int .u8 3] 5 3 rfl (by decide);refine kD rfl rfl (v:= .slice (some ⟨W9.heap.size,0,none⟩) 3 3) (w':=W9.alloc (.cells #[.int .u8 1,.int .u8 2,.int .u8 3] 5)) (by kernel_rfl) (hK _ _ ⟨?_,hc2,hc4,hc17,hc19,hf19,hf15,hf16,hf17,hf18⟩);exact hl.perm (ak _ _ _)
    ·obtain⟨v2,h2⟩:=jG.1 (hw 2 (by decide) (by kernel_rfl));obtain⟨v3,h3⟩:=jG.1 (hw 3 (by decide) (by kernel_rfl));rw[h2,h3,hσ] at hst;have hst:St w W9 (own 5 1 v2 (0+B.length) ([]++B.map bv)*(own 5 1 v3 3 [bv 1,bv 2,bv 3]*(pc19 (σ 19) (σ 20) (σ 17)*(pc15 n (C.map uv) (σ 15)*A)))):=by
      cases h:σ 0 <;> rw[h] at hst <;> exact hst
     refine An cP rfl rfl (.tmp 45) (.tmp 46) rfl (hval 2 v2 h2 (by kernel_rfl)) hst (hval 3 v3 h3 (by kernel_rfl)) hst.right.reads (dN [1,2,3]) (by unfold maxLen;omega) (by omega) fun v' w' h=>hK _ _ ⟨?_,hc2,fun h=>nn (h2.symm.trans h),hc17,hc19,hf19,hf15,hf16,hf17,hf18⟩
     show St w _ (pcB B (σ 0) (σ 2) (some _)*(pc3 (σ 3)*(pc19 (σ 19) (σ 20) (σ 17)*(pc15 n (C.map uv) (σ 15)*A))));rw[h2,h3];cases h0:σ 0 <;> exact h
    ·obtain⟨v4,h4⟩:=jG.1 (hw 4 (by decide) (by kernel_rfl));obtain⟨GA,hGA⟩:=HOA.out;have e47:a.eval (.tmp 47)=v4:=hval 4 v4 h4 (by kernel_rfl);rw[h4,hσ] at hst;have hst:St w W9 (own 5 1 v4 (0+B.length+3) ([]++B.map bv++[bv 1,bv 2,bv 3])*(pc3 (σ 3)*(pc19 (σ 19) (σ 20) (σ 17)*(bw*A)))):=by
      cases h:σ 0 <;> cases h':σ 2 <;> rw[h,h'] at hst <;> exact hst
     rw[cV,hGA] at hst;have hC:=HOP.out W9 v4 (pc3 (σ 3)*(pc19 (σ 19) (σ 20) (σ 17)*GA)) (hst.perm (by ac_rfl));refine Kp rfl rfl (.func 14) #[.tmp 47,.tmp 56,.tmp 57] _ rfl rfl ((Ko _ _ _ _).trans (by rw[e47,e56,e57])) KD (hC.mono ?_);rintro e w' ⟨x,rfl,h⟩;refine⟨_,rfl,hK _ _ ⟨?_,hc2,hc4,hc17,hc19,hf19,fun v hv=>⟨x,(fv hv).symm⟩,fun v hv=>nn ((hf16 v hv).symm.trans hσ),fun v hv=> ?_,hf18⟩⟩
     ·show St w w' (pcB B (σ 0) (σ 2) (σ 4)*(pc3 (σ 3)*(pc19 (σ 19) (σ 20) (σ 17)*(own 48 1 x n (C.map uv)*A))));have h:=h.perm (show _=own 5 1 v4 (0+B.length+3) ([]++B.map bv++[bv 1,bv 2,bv 3])*(pc3 (σ 3)*(pc19 (σ 19) (σ 20) (σ 17)*(own 48 1 x n (C.map uv)*(GA*old w)))) by ac_rfl);rw[h4,hGA];cases h':σ 0 <;> cases h'':σ 2 <;> exact h
     ·obtain⟨x',h15,_⟩:=hf17 v hv;exact nn (h15.symm.trans hσ)
    ·obtain⟨v15,h15⟩:=jG.1 (hw 15 (by decide) (by kernel_rfl));have e58:a.eval (.tmp 58)=v15:=hval 15 v15 h15 (by kernel_rfl);refine kD rfl rfl (v:=a.eval (.tmp 58)) (w':=W9) rfl (hK _ _ ⟨hst,hc2,hc4,hc17,hc19,hf19,hf15,fun v hv=> ?_,hf17,hf18⟩);have hv:some (a.eval (.tmp 58))=some v:=hv;show σ 15=some v;rw[← hv,e58,h15]
    ·obtain⟨v16,h16⟩:=jG.1 (hw 16 (by decide) (by kernel_rfl));have h15:=hf16 v16 h16;obtain⟨x,rfl⟩:=hf15 _ h15;have e42:a.eval (.tmp 42)=tup Wn Hn pn wn x:=hval 16 _ h16 (by kernel_rfl);have h20:=hc17 hσ;refine kD rfl rfl (v:= .agg #[.int .i64 (Wn:Int),.int .i64 (Hn:Int),.int .i64 (pn:Int),.int .i64 (wn:Int),x]) (w':=W9) (Ao (.tmp 42) 0 rfl e42 rfl) (hK _ _ ⟨?_,hc2,hc4,fun h=>nn h,hc19,hf19,hf15,hf16,fun v hv=>⟨x,h15,(fv hv).symm⟩,hf18⟩);show St w W9 (pcB B (σ 0) (σ 2) (σ 4)*(pc3 (σ 3)*(pc19 (σ 19) (σ 20) (some _)*(pc15 n (C.map uv) (σ 15)*A))));rw[h20];rw[h20] at hst;cases h:σ 19 <;> rw[h] at hst <;> exact hst
    ·obtain⟨v16,h16⟩:=jG.1 (hw 16 (by decide) (by kernel_rfl));have h15:=hf16 v16 h16;obtain⟨x,rfl⟩:=hf15 _ h15;have e42:a.eval (.tmp 42)=tup Wn Hn pn wn x:=hval 16 _ h16 (by kernel_rfl);refine kD rfl rfl (v:= .int .i64 0) (w':=W9) (Ao (.tmp 42) 1 rfl e42 rfl) (hK _ _ ⟨hst,hc2,hc4,hc17,hc19,hf19,hf15,hf16,hf17,fun v hv=>(fv hv).symm⟩)
    ·have h20:=hc19 hσ;rw[hσ,h20] at hst;have hst:St w W9 (pcB B (σ 0) (σ 2) (σ 4)*(pc3 (σ 3)*(bw*(pc15 n (C.map uv) (σ 15)*A)))):=hst;rw[cV] at hst;refine kD rfl rfl (v:= .pointer (some ⟨W9.heap.size,0,none⟩)) (w':=W9.alloc oC) (by kernel_rfl) (hK _ _ ⟨?_,hc2,hc4,hc17,fun h=>nn h,fun v hv=>⟨_,(fv hv).symm⟩,hf15,hf16,hf17,hf18⟩);show St w _ (pcB B (σ 0) (σ 2) (σ 4)*(pc3 (σ 3)*(pc19 (some _) (σ 20) (σ 17)*(pc15 n (C.map uv) (σ 15)*A))));rw[h20];have h:=(hst.alloc oC).perm (show _=pcB B (σ 0) (σ 2) (σ 4)*(pc3 (σ 3)*(blk W9.heap.size oC*(pc15 n (C.map uv) (σ 15)*A))) by ac_rfl);cases h':σ 17 <;> exact h
    ·obtain⟨v19,h19⟩:=jG.1 (hw 19 (by decide) (by kernel_rfl));obtain⟨v17,h17⟩:=jG.1 (hw 17 (by decide) (by kernel_rfl));obtain⟨g,rfl⟩:=hf19 _ h19;obtain⟨x,h15,rfl⟩:=hf17 _ h17;have e12:a.eval (.tmp 12)= .pointer (some ⟨g,0,none⟩):=hval 19 _ h19 (by kernel_rfl);have e59:a.eval (.tmp 59)= .agg #[.int .i64 (Wn:Int),.int .i64 (Hn:Int),.int .i64 (pn:Int),.int .i64 (wn:Int),x]:=hval 17 _ h17 (by kernel_rfl);obtain⟨a9,c9,rfl⟩:∃ a c,x= .slice a n c:=by
      rw[h15] at hst;exact(hst.perm (show _=own 48 1 x n (C.map uv)*(pcB B (σ 0) (σ 2) (σ 4)*(pc3 (σ 3)*(pc19 (σ 19) (σ 20) (σ 17)*A))) by show pcB B (σ 0) (σ 2) (σ 4)*(pc3 (σ 3)*(pc19 (σ 19) (σ 20) (σ 17)*(own 48 1 x n (C.map uv)*A)))=_;ac_rfl)).reads.sub
     rw[h19,hσ,h17] at hst;have hst:=hst.perm (show _=blk g oC*(pcB B (σ 0) (σ 2) (σ 4)*(pc3 (σ 3)*(pc15 n (C.map uv) (σ 15)*A))) by simp only[pc19,oB];ac_rfl);refine Kv rfl rfl 24 (.tmp 12) (.tmp 59) rfl hst e12 e59 (by show _=some 5;kernel_rfl) rfl ?_ ?_
     ·rfl
     ·have hk:=hK undef (W9.setRow g #[.int .i64 (Wn:Int),.int .i64 (Hn:Int),.int .i64 (pn:Int),.int .i64 (wn:Int),.slice a9 n c9]) ⟨?_,hc2,hc4,fun h=>nn (h17.symm.trans h),fun h=>nn (h19.symm.trans h),hf19,hf15,hf16,hf17,hf18⟩
      ·rw[Kt hsz9 (by kernel_rfl)] at hk;exact hk
      ·show St w _ (pcB B (σ 0) (σ 2) (σ 4)*(pc3 (σ 3)*(pc19 (σ 19) (some _) (σ 17)*(pc15 n (C.map uv) (σ 15)*A))));rw[h19,h17];exact(hst.setRow #[.int .i64 (Wn:Int),.int .i64 (Hn:Int),.int .i64 (pn:Int),.int .i64 (wn:Int),.slice a9 n c9]).perm (by simp only[pc19,oB,um];ac_rfl)
   ·refine⟨?_,fun _=>rfl,fun _=>rfl,fun _=>rfl,fun _=>rfl,fun v h=>nn h.symm,fun v h=>nn h.symm,fun v h=>nn h.symm,fun v h=>nn h.symm,fun v h=>nn h.symm⟩;exact hd0.perm (show A=bw*(bw*(bw*(bw*A))) by simp only[cV])
   intro vs W12 h12;obtain⟨hst, -, -, -, -,hf19,hf15,hf16,hf17,hf18⟩:=h12;obtain⟨g,e19⟩:=hf19 (vs 19) rfl;obtain⟨x,e15⟩:=hf15 (vs 15) rfl;have e16:vs 15=vs 16:=fv (hf16 (vs 16) rfl);obtain⟨x',e15',e17⟩:=hf17 (vs 17) rfl;have e15':vs 15=tup Wn Hn pn wn x':=fv e15';have e18:vs 18= .int .i64 0:=hf18 (vs 18) rfl;obtain rfl:x=x':=by
    have:=e15.symm.trans e15';simp only[tup,Value.tuple.injEq,Array.mk.injEq,List.cons.injEq,Value.agg.injEq] at this;exact this.1.2.2.2.2.1
   have hst:St w W12 (own 5 1 (vs 4) (0+B.length+3) ([]++B.map bv++[bv 1,bv 2,bv 3])*(own 5 1 (vs 3) 3 [bv 1,bv 2,bv 3]*(blk (oB (vs 19)) (.cells (um (vs 17)) 24)*(own 48 1 (Ap (vs 15)) n (C.map uv)*A)))):=hst;rw[e19,e17,e15] at hst;have hst:St w W12 (own 5 1 (vs 4) (0+B.length+3) ([]++B.map bv++[bv 1,bv 2,bv 3])*(own 5 1 (vs 3) 3 [bv 1,bv 2,bv 3]*(blk g (.cells #[.int .i64 (Wn:Int),.int .i64 (Hn:Int),.int .i64 (pn:Int),.int .i64 (wn:Int),x] 24)*(own 48 1 x n (C.map uv)*A)))):=hst;rw[HA.out] at hst;clear hf19 hf15 hf16 hf17 hf18
   change cH _ _ _ _ _ _ _ _ (ed _ [(43,vs 0),(45,vs 2),(46,vs 3),(47,vs 4),(58,vs 15),(42,vs 16),(59,vs 17),(60,vs 18),(12,vs 19),(100020,vs 20)]) _
   rw[← e16,e15,e17,e18,e19];simp only[ed,Act.put,tup,iN,eH,ft];refine bq (i:=21) (by kernel_rfl) ?_;refine kD rfl rfl (v:= .int .i64 0) (w':=W12) (by rfl) ⟨fun h=> ?_,?_⟩
   ·exact⟨_,hst.perm (show _=blk w.heap.size (.cells #[.int .i64 (Wn:Int),.int .i64 (Hn:Int),.int .i64 (pn:Int),.int .i64 (wn:Int),.slice a1 n c1] 24)*(blk q (.cells (ba o) 28)*((own 5 1 (vs 4) (0+B.length+3) ([]++B.map bv++[bv 1,bv 2,bv 3])*(own 5 1 (vs 3) 3 [bv 1,bv 2,bv 3]*(blk g (.cells #[.int .i64 (Wn:Int),.int .i64 (Hn:Int),.int .i64 (pn:Int),.int .i64 (wn:Int),x] 24)*own 48 1 x n (C.map uv))))*(own 5 1 (.slice a6 B.length c6) B.length (B.map bv)*(blk b (.cells (gi o1 o2) 28)*(own 48 1 (.slice a1 n c1) n (C.map uv)*old w))))) by ac_rfl)⟩
   simp only[Act.put,sA,sZ,sS];refine⟨by kernel_rfl,NoPanic.normal ?_⟩;have hst:=hst.right.right.perm (show _=blk g (.cells #[.int .i64 (Wn:Int),.int .i64 (Hn:Int),.int .i64 (pn:Int),.int .i64 (wn:Int),x] 24)*(own 48 1 x n (C.map uv)*(blk w.heap.size (.cells #[.int .i64 (Wn:Int),.int .i64 (Hn:Int),.int .i64 (pn:Int),.int .i64 (wn:Int),.slice a1 n c1] 24)*(blk b (.cells (gi o1 o2) 28)*(own 48 1 (.slice a1 n c1) n (C.map uv)*(old w*(blk q (.cells (ba o) 28)*own 5 1 (.slice a6 B.length c6) B.length (B.map bv))))))) by ac_rfl);obtain⟨ax,cx,rfl⟩:=hst.right.reads.sub;have r4:=hst.cell 4 rfl;have p4:=hst.right.right.cell 4 rfl;have hSM:=Ad (w:=W12) (a:=C) (b:=C) (va:= .slice ax n cx) (vb:= .slice a1 n c1) (by rw[HCN.out];exact hst.right.reads) (by rw[HCN.out];exact hst.right.right.right.right.reads) (by rw[HCN.out];omega) (fun x hx=>(HCL.out x hx).1) (fun x hx=>(HCL.out x hx).1);rw[show decide (C=C)=true from decide_eq_true rfl] at hSM;have h12:=hst.right.right.perm (show _=(blk b (.cells (gi o1 o2) 28)*(blk w.heap.size (.cells #[.int .i64 (Wn:Int),.int .i64 (Hn:Int),.int .i64 (pn:Int),.int .i64 (wn:Int),.slice a1 n c1] 24)*(own 48 1 (.slice a1 n c1) n (C.map uv)*old w)))*(blk q (.cells (ba o) 28)*own 5 1 (.slice a6 B.length c6) B.length (B.map bv)) by ac_rfl);have H12:=ac h12.left;have HSM:=ac hSM;clear hst hSM h12 hS hd0 HA HOA HSOF HRD HOP e15 e16 e17 e18 e19 e15';go_wp2_with (go_at_call 11;refine HSM.out.mono ?_;rintro e W13 ⟨rfl,qd,rfl⟩;have H13:=ac (H12.out.drewN qd);clear r4 p4 HSM);exact⟨⟨k+1,by omega,by go_num,H13.out⟩,by simp [intOf];omega⟩
end Go.Proofs.YtboflbdniogcdaaGreatDoor.cagain
