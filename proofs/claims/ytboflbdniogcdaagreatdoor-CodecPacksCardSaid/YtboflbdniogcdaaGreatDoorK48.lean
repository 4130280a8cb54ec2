/-
  Parts of a proof.
-/
import Derived.OpenShut
import Derived.Test.YtboflbdniogcdaaGreatDoorK47
set_option linter.unusedVariables false
set_option linter.unusedSimpArgs false
set_option maxRecDepth 100000
set_option maxHeartbeats 100000000
namespace Go.Proofs.YtboflbdniogcdaaGreatDoor
open Go.RowKit Go.Mz Go.ChangeShapes Go.WideShapes
theorem Jb {H:Type} {enc:TypeId × Value→H} {w:World} {base:Nat} {spare:Nat→Bool} {held:Bool} {fuel:Nat} {cs:List Value} {x:DataW H × List MemPlace} (h:DataW.trod enc Tryz.prog w base spare held fuel 22 cs=some x):
  ∃ (v:Value) (bs:List Nat),cs=[v]∧Reads w 1 v bs.length (bs.map uv)∧∀ x∈bs,x<4294967296:=by
 rcases Deep.open_slice Tryz.underlying22 h with ⟨h0,_⟩ | ⟨b,l,c,m,n,D,Pl,hcs,_,hl,hm,hmm,hxx,hi⟩
 ·exact⟨_,[],h0,⟨rfl,.inl ⟨rfl,rfl⟩⟩,by simp⟩
 ·have hC:Tryz.prog.cellsOf 48=1:=by kernel_rfl
  obtain⟨L,h1,h2,hx⟩:=Cc (α:=Nat) (fun b=>[uv b]) (m:=1) (by decide) (fun _=>rfl) hl hm (fun x=>x<4294967296) (fun i hil=>by
   obtain⟨cs,hc,ht⟩:=hi i (by rw[hmm];split <;> omega);rw[hC] at hc;obtain⟨_,hlen,hat⟩:=World.cells?_some hc;obtain⟨z,rfl,_,hw⟩:=DataW.trod_int Tryz.underlying48 ht;have hz:0≤z∧z<4294967296:=by
    simp [Lit.wf,IntKind.min,IntKind.max,IntKind.bits,IntKind.signed] at hw;omega
   refine⟨z.toNat,fun j u hu=> ?_,by omega⟩;cases j with
   | zero=>
    cases hu;have:=hat 0 (by decide);rw[Deep.add_add] at this;show _=some (Value.int .u32 (z.toNat:Int));rw[Int.toNat_of_nonneg hz.1];exact this
   | succ j=>simp at hu)
  have e:L.flatMap (fun b=>[uv b])=L.map uv:=by
   clear h1 h2 hx
   induction L with
   | nil=>rfl
   | cons b l ih=>rw[eZ,ih];rfl
  rw[e] at h2;exact⟨_,L,hcs,by rw[h1];exact h2,hx⟩
def inI64 (x:Int):Prop:= -9223372036854775808≤x∧x<9223372036854775808
theorem pS {x:Int} (h:(Lit.int .i64 x).wf=true):inI64 x:=by
 unfold inI64;simp [Lit.wf,IntKind.min,IntKind.max,IntKind.bits,IntKind.signed] at h;omega
structure PartI where
 w:Int
 h:Int
 per:Int
 wide:Int
 a:Option Addr
 c:Nat
 l:List Nat
def PartI.val (y:PartI):Value:= .agg #[.int .i64 y.w,.int .i64 y.h,.int .i64 y.per,.int .i64 y.wide,.slice y.a y.l.length y.c]
structure PartIn (w:World) (y:PartI):Prop where
 rd:Reads w 1 (.slice y.a y.l.length y.c) y.l.length (y.l.map uv)
 lt:∀ x∈y.l,x<4294967296
 w:inI64 y.w
 h:inI64 y.h
 per:inI64 y.per
 wide:inI64 y.wide
theorem part_in {H:Type} {enc:TypeId × Value→H} {w:World} {r:Reach} {b0 base:Nat} {spare:Nat→Bool} {held:Bool} {fuel:Nat} {v:Value} {x:DataW H × List MemPlace}
  (hv:Value.okWide Tryz.prog w r b0 24 v) (h:DataW.trod enc Tryz.prog w base spare held fuel 24 v.cells.toList=some x):
  ∃ y:PartI,v=y.val∧PartIn w y:=by
 simp only[Value.okWide,Tryz.underlying24] at hv;obtain⟨cs,rfl,hsz,_⟩:=hv;have hC:Tryz.prog.cellsOf 24=5:=by kernel_rfl
 have hE:Tryz.prog.cellsOf 3=1:=by kernel_rfl
 have hS:Tryz.prog.cellsOf 22=1:=by kernel_rfl
 rw[hC] at hsz;obtain⟨c0,c1,c2,c3,c4,rfl⟩:∃ c0 c1 c2 c3 c4,cs=#[c0,c1,c2,c3,c4]:=by
  obtain⟨l⟩:=cs
  match l,hsz with
  | [a,b,c,d,e],_=>exact⟨a,b,c,d,e,rfl⟩
 obtain⟨ys,m,_,_,_,hyl,hf⟩:=DataW.trod_struct Tryz.underlying24 h;obtain⟨y0,y1,y2,y3,y4,rfl⟩:∃ y0 y1 y2 y3 y4,ys=[y0,y1,y2,y3,y4]:=by
  match ys,hyl with
  | [a,b,c,d,e],_=>exact⟨a,b,c,d,e,rfl⟩
 have f0:=hf 0 _ rfl;have f1:=hf 1 _ rfl;have f2:=hf 2 _ rfl;have f3:=hf 3 _ rfl;have f4:=hf 4 _ rfl;simp [hE,hS,Value.cells] at f0 f1 f2 f3 f4;obtain⟨a0,h0,_,w0⟩:=DataW.trod_int Tryz.underlying3 f0;obtain⟨a1,h1,_,w1⟩:=DataW.trod_int Tryz.underlying3 f1;obtain⟨a2,h2,_,w2⟩:=DataW.trod_int Tryz.underlying3 f2;obtain⟨a3,h3,_,w3⟩:=DataW.trod_int Tryz.underlying3 f3;obtain⟨v4,l4,h4,r4,q4⟩:=Jb f4;simp only[qc,and_true] at h0 h1 h2 h3 h4;subst h0 h1 h2 h3 h4;obtain⟨a,c,rfl⟩:=r4.sub;exact⟨⟨a0,a1,a2,a3,a,c,l4⟩,rfl,r4,q4,pS w0,pS w1,pS w2,pS w3⟩
theorem opt_in {H:Type} {enc:TypeId × Value→H} {w:World} {r:Reach} {b0 base:Nat} {spare:Nat→Bool} {held:Bool} {fuel:Nat} {v:Value} {x:DataW H × List MemPlace}
  (hv:Value.okWide Tryz.prog w r b0 28 v) (h:DataW.trod enc Tryz.prog w base spare held fuel 28 v.cells.toList=some x):
  ∃ o:Opt,v=o.v∧True:=by
 simp only[Value.okWide,Tryz.underlying28] at hv;obtain⟨cs,rfl,hsz,_⟩:=hv;have hC:Tryz.prog.cellsOf 28=14:=by kernel_rfl
 have hE:Tryz.prog.cellsOf 3=1:=by kernel_rfl
 have hB:Tryz.prog.cellsOf 4=1:=by kernel_rfl
 have hF:Tryz.prog.cellsOf 26=4:=by kernel_rfl
 rw[hC] at hsz;obtain⟨c0,c1,c2,c3,c4,c5,c6,c7,c8,c9,c10,c11,c12,c13,rfl⟩:∃ c0 c1 c2 c3 c4 c5 c6 c7 c8 c9 c10 c11 c12 c13,cs=#[c0,c1,c2,c3,c4,c5,c6,c7,c8,c9,c10,c11,c12,c13]:=by
  obtain⟨l⟩:=cs
  match l,hsz with
  | [a,b,c,d,e,f,g,h,i,j,k,l,m,n],_=>exact⟨a,b,c,d,e,f,g,h,i,j,k,l,m,n,rfl⟩
 obtain⟨ys,m,_,_,_,hyl,hf⟩:=DataW.trod_struct Tryz.underlying28 h;obtain⟨y0,y1,y2,y3,y4,y5,y6,y7,y8,y9,y10,rfl⟩:∃ y0 y1 y2 y3 y4 y5 y6 y7 y8 y9 y10,ys=[y0,y1,y2,y3,y4,y5,y6,y7,y8,y9,y10]:=by
  match ys,hyl with
  | [a,b,c,d,e,f,g,h,i,j,k],_=>exact⟨a,b,c,d,e,f,g,h,i,j,k,rfl⟩
 have f0:=hf 0 _ rfl;have f1:=hf 1 _ rfl;have f2:=hf 2 _ rfl;have f3:=hf 3 _ rfl;have f4:=hf 4 _ rfl;have f5:=hf 5 _ rfl;have f6:=hf 6 _ rfl;have f7:=hf 7 _ rfl;have f8:=hf 8 _ rfl;have f9:=hf 9 _ rfl;have f10:=hf 10 _ rfl;simp [hE,hB,hF,Value.cells] at f0 f1 f2 f3 f4 f5 f6 f7 f8 f9 f10;obtain⟨zs,m2,_,_,_,hzl,hg⟩:=DataW.trod_struct Tryz.underlying26 f9;obtain⟨z0,z1,z2,z3,rfl⟩:∃ z0 z1 z2 z3,zs=[z0,z1,z2,z3]:=by
  match zs,hzl with
  | [a,b,c,d],_=>exact⟨a,b,c,d,rfl⟩
 have g0:=hg 0 _ rfl;have g1:=hg 1 _ rfl;have g2:=hg 2 _ rfl;have g3:=hg 3 _ rfl;simp [hE,hB] at g0 g1 g2 g3;obtain⟨a0,h0,_⟩:=DataW.trod_bool Tryz.underlying4 f0;obtain⟨a1,h1,_⟩:=DataW.trod_bool Tryz.underlying4 f1;obtain⟨a2,h2,_⟩:=DataW.trod_bool Tryz.underlying4 f2;obtain⟨a3,h3,_,_⟩:=DataW.trod_int Tryz.underlying3 f3;obtain⟨a4,h4,_,_⟩:=DataW.trod_int Tryz.underlying3 f4;obtain⟨a5,h5,_⟩:=DataW.trod_bool Tryz.underlying4 f5;obtain⟨a6,h6,_,_⟩:=DataW.trod_int Tryz.underlying3 f6;obtain⟨a7,h7,_⟩:=DataW.trod_bool Tryz.underlying4 f7;obtain⟨a8,h8,_⟩:=DataW.trod_bool Tryz.underlying4 f8;obtain⟨b0,k0,_⟩:=DataW.trod_bool Tryz.underlying4 g0;obtain⟨b1,k1,_,_⟩:=DataW.trod_int Tryz.underlying3 g1;obtain⟨b2,k2,_⟩:=DataW.trod_bool Tryz.underlying4 g2;obtain⟨b3,k3,_⟩:=DataW.trod_bool Tryz.underlying4 g3;obtain⟨a10,h10,_,_⟩:=DataW.trod_int Tryz.underlying3 f10;simp only[qc,and_true] at h0 h1 h2 h3 h4 h5 h6 h7 h8 h10 k0 k1 k2 k3;subst h0 h1 h2 h3 h4 h5 h6 h7 h8 h10 k0 k1 k2 k3;exact⟨⟨a0,a1,a2,a3,a4,a5,a6,a7,a8,b0,b1,b2,b3,a10⟩,rfl,trivial⟩
end Go.Proofs.YtboflbdniogcdaaGreatDoor
