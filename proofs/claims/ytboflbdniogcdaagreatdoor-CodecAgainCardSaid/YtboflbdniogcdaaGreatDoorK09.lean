/-
  Parts of a proof.
-/
import Derived.Test.YtboflbdniogcdaaGreatDoorK00
import Derived.Test.YtboflbdniogcdaaGreatDoorK02
import Derived.Test.YtboflbdniogcdaaGreatDoorChecked
import Derived.Test.YtboflbdniogcdaaGreatDoorK05
import Derived.Test.YtboflbdniogcdaaGreatDoorK01
import Derived.Test.YtboflbdniogcdaaGreatDoorK03
import Derived.Deep.RegionHeld3
set_option linter.unusedVariables false
set_option linter.unusedSimpArgs false
set_option maxRecDepth 100000
set_option maxHeartbeats 100000000
namespace Go.Proofs.YtboflbdniogcdaaGreatDoor
open Go.RowKit Go.Mz
theorem wa:ElemT Tryz.prog 79 3 1 8 (.int .i64 0):=
 ⟨Tryz.underlying79,info_parts (by kernel_rfl),rfl,by decide⟩
def jt (n:Int):Value:= .int .i64 n
def iw (n:Nat):Value:= .int .i64 (n:Int)
def ek (B:Nat) (n:Nat) (va vl vg:Value) (ah:List Int) (la:List UInt8) (lo:List Nat) (F:SProp):List SProp:=
 [own 3 1 va n (ah.map jt),own 5 1 vl n (la.map bv),own 3 1 vg n (lo.map iw),blk B (.cells #[va,vl,vg] 213),F]
theorem Dd {w0 w:World} {B n:Nat} {a1 a2 a3:Option Addr} {k1 k2 k3:Nat} {ah:List Int} {la:List UInt8} {lo:List Nat} {F:SProp}
  (h:StL w0 w (ek B n (.slice a1 n k1) (.slice a2 n k2) (.slice a3 n k3) ah la lo F)) (hn:n≤100000) (j:Nat) (hj:j<n) (c:UInt8) (cc:Nat) (hc8:cc=c.toNat) (x:Nat) (hx:lo[j]? =some x) (hx2:x≤100000):
  Calls Tryz.prog 154 #[.pointer (some ⟨B,0,none⟩),.int .i64 j,.int .u8 cc] w fun e w'=>e= .returned (.tuple #[])∧
   ∃ va vl vg,StL w0 w' (ek B (n+1) va vl vg (ah++[(j:Int)]) (la++[c]) (lo++[x+1]) F):=by
 have c0:w.cell? ⟨B,0,none⟩=some (.slice a1 n k1):=h.cell (i:=3) rfl 0 rfl;have c1:w.cell? ⟨B,1,none⟩=some (.slice a2 n k2):=h.cell (i:=3) rfl 1 rfl;have c2:w.cell? ⟨B,2,none⟩=some (.slice a3 n k3):=h.cell (i:=3) rfl 2 rfl;obtain⟨g,off,rfl,hc⟩:=(h.reads (i:=2) rfl).at_ hj;have hc':(lo.map iw)[j]? =some (.int .i64 (x:Int)):=by simp [hx,iw]
 rw[hc'] at hc;clear hc';have TI:=wa;have TB:=cP;have H:=ac h;clear h;have hj0:(0:Int)≤j:=by omega
 have hj1:(j:Int)<n:=by omega
 have hs1:IntKind.i64.wrap ((x:Int)+1)=x+1:=IntWalk.i64_in _ (by omega);have hlx:=ac hx;clear hx;have hcc:=ac hc8;clear hc8;go_enter Tryz.func154,Tryz.ntmps154;go_wp2_with fail;refine wp_region_noPanic ?_;refine io (S:=fun w':World=>w'.cell? ⟨B,0,none⟩=some (.slice a1 n k1)∧w'.cell? ⟨B,1,none⟩=some (.slice a2 n k2)∧w'.cell? ⟨B,2,none⟩=some (.slice (some ⟨g,off,none⟩) n k3)∧w'.cell? ⟨g,off+j,none⟩=some (.int .i64 x)) (k:=31) (by kernel_rfl) ?_;have hS:(fun w':World=>w'.cell? ⟨B,0,none⟩=some (.slice a1 n k1)∧w'.cell? ⟨B,1,none⟩=some (.slice a2 n k2)∧w'.cell? ⟨B,2,none⟩=some (.slice (some ⟨g,off,none⟩) n k3)∧w'.cell? ⟨g,off+j,none⟩=some (.int .i64 x)) w.drew:=⟨c0,c1,c2,hc⟩;refine ay 0 rfl (by kernel_rfl) rfl (fun _ _ _ h=>h) (by assumption) ⟨?_,fun w=> ?_,?_⟩;rotate_left
 ·(go_simp;try with_reducible rfl)
 simp only[Act.put,sA,sZ,sS];refine ay 1 rfl (by kernel_rfl) rfl (fun _ _ _ h=>h) (by assumption) ⟨?_,fun w=> ?_,?_⟩;rotate_left
 ·(go_simp;try with_reducible rfl)
 simp only[Act.put,sA,sZ,sS];refine ay 2 rfl (by kernel_rfl) rfl (fun _ _ _ h=>h) (by assumption) ⟨?_,fun w=> ?_,?_⟩;rotate_left
 ·(go_simp;try with_reducible rfl)
 simp only[Act.put,sA,sZ,sS];refine ay 3 rfl (by kernel_rfl) rfl (fun _ _ _ h=>h) (by assumption) ⟨?_,fun w=> ?_,?_⟩;rotate_left
 ·(go_simp;try with_reducible rfl)
 simp only[Act.put,sA,sZ,sS];refine ay 4 rfl (by kernel_rfl) rfl (fun _ _ _ h=>h) (by assumption) ⟨?_,fun w=> ?_,?_⟩;rotate_left
 ·(go_simp;try with_reducible rfl)
 simp only[Act.put,sA,sZ,sS];refine ay 5 rfl (by kernel_rfl) rfl (fun _ _ _ h=>h) (by assumption) ⟨?_,fun w=> ?_,?_⟩;rotate_left
 ·(go_simp;try with_reducible rfl)
 simp only[Act.put,sA,sZ,sS];refine dG 6 rfl (by kernel_rfl) rfl (fun _ _ _ h=>h) (by assumption) ⟨?_,fun w hSw=> ?_,?_⟩;rotate_left
 ·((try dsimp only at hSw);go_simp;try with_reducible rfl)
 simp only[Act.put,sA,sZ,sS];refine ay 7 rfl (by kernel_rfl) rfl (fun _ _ _ h=>h) (by assumption) ⟨?_,fun w=> ?_,?_⟩;rotate_left
 ·(go_simp;try with_reducible rfl)
 simp only[Act.put,sA,sZ,sS];refine ay 10 rfl (by kernel_rfl) rfl (fun _ _ _ h=>h) (by assumption) ⟨?_,fun w=> ?_,?_⟩;rotate_left
 ·(go_simp;try with_reducible rfl)
 simp only[Act.put,sA,sZ,sS];refine ay 11 rfl (by kernel_rfl) rfl (fun _ _ _ h=>h) (by assumption) ⟨?_,fun w=> ?_,?_⟩;rotate_left
 ·(go_simp;try with_reducible rfl)
 simp only[Act.put,sA,sZ,sS];refine ay 12 rfl (by kernel_rfl) rfl (fun _ _ _ h=>h) (by assumption) ⟨?_,fun w=> ?_,?_⟩;rotate_left
 ·(go_simp;try with_reducible rfl)
 simp only[Act.put,sA,sZ,sS];refine dG 13 rfl (by kernel_rfl) rfl (fun _ _ _ h=>h) (by assumption) ⟨?_,fun w hSw=> ?_,?_⟩;rotate_left
 ·((try dsimp only at hSw);go_simp;try with_reducible rfl)
 simp only[Act.put,sA,sZ,sS];refine ay 14 rfl (by kernel_rfl) rfl (fun _ _ _ h=>h) (by assumption) ⟨?_,fun w=> ?_,?_⟩;rotate_left
 ·(go_simp;try with_reducible rfl)
 simp only[Act.put,sA,sZ,sS];refine ay 17 rfl (by kernel_rfl) rfl (fun _ _ _ h=>h) (by assumption) ⟨?_,fun w=> ?_,?_⟩;rotate_left
 ·(go_simp;try with_reducible rfl)
 simp only[Act.put,sA,sZ,sS];refine ay 18 rfl (by kernel_rfl) rfl (fun _ _ _ h=>h) (by assumption) ⟨?_,fun w=> ?_,?_⟩;rotate_left
 ·(go_simp;try with_reducible rfl)
 simp only[Act.put,sA,sZ,sS];refine ay 19 rfl (by kernel_rfl) rfl (fun _ _ _ h=>h) (by assumption) ⟨?_,fun w=> ?_,?_⟩;rotate_left
 ·(go_simp;try with_reducible rfl)
 simp only[Act.put,sA,sZ,sS];refine dG 20 rfl (by kernel_rfl) rfl (fun _ _ _ h=>h) (by assumption) ⟨?_,fun w hSw=> ?_,?_⟩;rotate_left
 ·((try dsimp only at hSw);go_simp;try with_reducible rfl)
 simp only[Act.put,sA,sZ,sS];refine ay 21 rfl (by kernel_rfl) rfl (fun _ _ _ h=>h) (by assumption) ⟨?_,fun w=> ?_,?_⟩;rotate_left
 ·(go_simp;try with_reducible rfl)
 simp only[Act.put,sA,sZ,sS];refine ay 22 rfl (by kernel_rfl) rfl (fun _ _ _ h=>h) (by assumption) ⟨?_,fun w=> ?_,?_⟩;rotate_left
 ·(go_simp;try with_reducible rfl)
 simp only[Act.put,sA,sZ,sS];refine ay 23 rfl (by kernel_rfl) rfl (fun _ _ _ h=>h) (by assumption) ⟨?_,fun w=> ?_,?_⟩;rotate_left
 ·(go_simp;try with_reducible rfl)
 simp only[Act.put,sA,sZ,sS];refine dG 24 rfl (by kernel_rfl) rfl (fun _ _ _ h=>h) (by assumption) ⟨?_,fun w hSw=> ?_,?_⟩;rotate_left
 ·((try dsimp only at hSw);go_simp;try with_reducible rfl)
 simp only[Act.put,sA,sZ,sS];refine ay 25 rfl (by kernel_rfl) rfl (fun _ _ _ h=>h) (by assumption) ⟨?_,fun w=> ?_,?_⟩;rotate_left
 ·(go_simp;try with_reducible rfl)
 simp only[Act.put,sA,sZ,sS];refine ay 26 rfl (by kernel_rfl) rfl (fun _ _ _ h=>h) (by assumption) ⟨?_,fun w=> ?_,?_⟩;rotate_left
 ·(go_simp;try with_reducible rfl)
 simp only[Act.put,sA,sZ,sS];refine dG 27 rfl (by kernel_rfl) rfl (fun _ _ _ h=>h) (by assumption) ⟨?_,fun w hSw=> ?_,?_⟩;rotate_left
 ·((try dsimp only at hSw);go_simp;try with_reducible rfl)
 simp only[Act.put,sA,sZ,sS];refine ay 28 rfl (by kernel_rfl) rfl (fun _ _ _ h=>h) (by assumption) ⟨?_,fun w=> ?_,?_⟩;rotate_left
 ·(go_simp;try with_reducible rfl)
 simp only[Act.put,sA,sZ,sS];refine uZ (S:=_) (k:=31) (w0:=w0) (F:=F) (D:=blk B (.cells #[.slice a1 n k1,.slice a2 n k2,.slice (some ⟨g,off,none⟩) n k3] 213)) (fuel:=9)
  ⟨79,3,.slice a1 n k1,n,ah.map jt,.int .i64 j⟩ ⟨32,5,.slice a2 n k2,n,la.map bv,.int .u8 cc⟩ ⟨79,3,.slice (some ⟨g,off,none⟩) n k3,n,lo.map iw,.int .i64 (x+1)⟩
  ?ok1 ?ok2 ?fy 8 9 15 16 29 30 (fun b1 b2 b3 c=>#[true,true,true,true,true,true,true,true,b1,decide (0<c),true,true,true,true,true,b2,decide (1<c),true,true,true,true,true,true,true,true,true,true,true,true,b3,decide (2<c),false,false,false,false,false,false,false,false,false]) (by kernel_rfl) (fun u1 u2 u3 v1 v2 v3=>{ tmps:=#[Value.pointer (some ⟨B,0,none⟩),.int .i64 j,.int .u8 cc,undef,undef,undef,Value.pointer (some ⟨B,0,none⟩),Value.pointer (some ⟨B,0,none⟩),Value.pointer (some ⟨B,0,none⟩),Value.pointer (some ⟨B,0,none⟩),Value.pointer (some ⟨B,0,none⟩),.pointer (some ⟨B,0,none⟩),.slice a1 n k1,.int .i64 j,u1,v1,Value.pointer (some ⟨B,0,none⟩),Value.pointer (some ⟨B,0,none⟩),.pointer (some ⟨B,1,none⟩),.slice a2 n k2,.int .u8 cc,u2,v2,Value.pointer (some ⟨B,0,none⟩),Value.pointer (some ⟨B,0,none⟩),.pointer (some ⟨B,2,none⟩),.slice (some ⟨g,off,none⟩) n k3,Value.pointer (some ⟨B,0,none⟩),Value.pointer (some ⟨B,0,none⟩),.pointer (some ⟨B,2,none⟩),.slice (some ⟨g,off,none⟩) n k3,.int .i64 j,.pointer (some ⟨g,off+j,none⟩),.int .i64 x,.int .i64 (x+1),u3,v3,undef,undef,undef,undef,undef,undef],defers:=[] }) ?hb1 ?hb2 ?hb3 ?ha1 ?ha2 ?ha3 ?hS ?hend 6 false false false 0 undef undef undef undef undef undef w.drew rfl rfl ?h0
 case ok1=>exact⟨⟨_,_,TI,by dsimp only;omega⟩,by dsimp only;unfold maxLen;omega,rfl⟩
 case ok2=>exact⟨⟨_,_,TB,by dsimp only;omega⟩,by dsimp only;unfold maxLen;omega,rfl⟩
 case fy=>exact⟨⟨_,_,TI,by dsimp only;omega⟩,by dsimp only;unfold maxLen;omega,rfl⟩
 case ha1=>exact fun u2 u3 v2 v3=>⟨_,_,_,rfl,rfl,rfl,fun u v=>⟨rfl,rfl,fun _=>rfl⟩⟩
 case ha2=>exact fun u2 u3 v2 v3=>⟨_,_,_,rfl,rfl,rfl,fun u v=>⟨rfl,rfl,fun _=>rfl⟩⟩
 case ha3=>exact fun u2 u3 v2 v3=>⟨_,_,_,rfl,rfl,rfl,fun u v=>⟨rfl,rfl,fun _=>rfl⟩⟩
 case hS=>
  intro w' A hD hR;obtain⟨g',off',he,hc'⟩:=hR.at_ hj;cases he;refine⟨hD.cell 0 rfl,hD.cell 1 rfl,hD.cell 2 rfl,?_⟩;rw[hc'];simp [hlx.out,iw]
 case h0=>
  have:=H.out.drew;simpa [L3,ip,gF,StL,cX,ek,cV] using this
 case hb1=>
  intro u2 u3 v1 v2 v3 u w' K hK;refine wpOp_step (by rfl) fun K' hK'=> ?_
  go_simp;exact hK' _ _ hK
 case hb2=>
  intro u1 u3 v1 v2 v3 u w' K hK;refine wpOp_step (by rfl) fun K' hK'=> ?_
  go_simp;exact hK' _ _ hK
 case hb3=>
  intro u1 u2 v1 v2 v3 u w' K hK;refine wpOp_step (by rfl) fun K' hK'=> ?_
  go_simp;exact hK' _ _ hK
 case hend=>
  intro u1 u2 u3 v1 v2 v3 w' h';have h':StL w0 w' [own 3 1 v1 (n+1) (ah.map jt++[.int .i64 j]),own 5 1 v2 (n+1) (la.map bv++[.int .u8 cc]),own 3 1 v3 (n+1) (lo.map iw++[.int .i64 (x+1)]),blk B (.cells #[.slice a1 n k1,.slice a2 n k2,.slice (some ⟨g,off,none⟩) n k3] 213),F,own 3 1 u1 1 [.int .i64 j],own 5 1 u2 1 [.int .u8 cc],own 3 1 u3 1 [.int .i64 (x+1)]]:=h';obtain⟨x1,y1,rfl⟩:=(h'.reads (i:=0) rfl).sub;obtain⟨x2,y2,rfl⟩:=(h'.reads (i:=1) rfl).sub;obtain⟨x3,y3,rfl⟩:=(h'.reads (i:=2) rfl).sub;refine bq (i:=31) (by kernel_rfl) ?_;refine wpOp_step (by rfl) fun K hK=> ?_
  go_simp;refine hK _ _ ⟨fun e=>(by cases e),?_⟩;clear hK K;refine bq (i:=32) (by kernel_rfl) ?_;refine wpOp_step (by rfl) fun K hK=> ?_
  go_simp;refine hK _ _ ⟨fun e=>(by cases e),?_⟩;clear hK K;have f0:=h'.free (i:=3) rfl 0;have e0:=h'.cell (i:=3) rfl 0 rfl;have s0:=h'.set (i:=3) rfl 0 (.slice x1 (n+1:Nat) y1);clear h';have h':=s0;clear s0;refine bq (i:=33) (by kernel_rfl) ?_;refine wpOp_step (by rfl) fun K hK=> ?_
  go_simp;refine hK _ _ ⟨fun e=>(by cases e),?_⟩;clear hK K;refine bq (i:=34) (by kernel_rfl) ?_;refine wpOp_step (by rfl) fun K hK=> ?_
  go_simp;refine hK _ _ ⟨fun e=>(by cases e),?_⟩;clear hK K;refine bq (i:=35) (by kernel_rfl) ?_;refine wpOp_step (by rfl) fun K hK=> ?_
  go_simp;refine hK _ _ ⟨fun e=>(by cases e),?_⟩;clear hK K;have f1:=h'.free (i:=3) rfl 1;have e1:=h'.cell (i:=3) rfl 1 rfl;have s1:=h'.set (i:=3) rfl 1 (.slice x2 (n+1:Nat) y2);clear h';have h':=s1;clear s1;refine bq (i:=36) (by kernel_rfl) ?_;refine wpOp_step (by rfl) fun K hK=> ?_
  go_simp;refine hK _ _ ⟨fun e=>(by cases e),?_⟩;clear hK K;refine bq (i:=37) (by kernel_rfl) ?_;refine wpOp_step (by rfl) fun K hK=> ?_
  go_simp;refine hK _ _ ⟨fun e=>(by cases e),?_⟩;clear hK K;refine bq (i:=38) (by kernel_rfl) ?_;refine wpOp_step (by rfl) fun K hK=> ?_
  go_simp;refine hK _ _ ⟨fun e=>(by cases e),?_⟩;clear hK K;have f2:=h'.free (i:=3) rfl 2;have e2:=h'.cell (i:=3) rfl 2 rfl;have s2:=h'.set (i:=3) rfl 2 (.slice x3 (n+1:Nat) y3);clear h';have h':=s2;clear s2;refine bq (i:=39) (by kernel_rfl) ?_;refine wpOp_step (by rfl) fun K hK=> ?_
  go_simp;refine hK _ _ ⟨fun e=>(by cases e),?_⟩;clear hK K;refine⟨by kernel_rfl,NoPanic.normal ?_⟩;have HF:=ac h';clear h' f0 e0 f1 e1 f2 e2 hS;go_wp2_with fail
  go_end0
  refine⟨rfl,.slice x1 (n+1:Nat) y1,.slice x2 (n+1:Nat) y2,.slice x3 (n+1:Nat) y3,?_⟩;have hf:=HF.out;simp only[eH,ft,iN] at hf;have hf:=StL.take (l1:=[_,_,_,_,_]) hf;simpa [ek,jt,iw,bv,hcc.out] using hf
theorem De {w0 w:World} {F:SProp} (h:St w0 w F):
  Calls Tryz.prog 153 #[] w fun e w'=>∃ B,e= .returned (.pointer (some ⟨B,0,none⟩))∧
   ∃ va vl vg,StL w0 w' (ek B 258 va vl vg (List.replicate 258 (-1)) ((List.range 258).map UInt8.ofNat) (List.replicate 258 1) F):=by
 have H:=ac h;clear h;have TI:=wa;have TB:=cP;go_enter Tryz.func153,Tryz.ntmps153;go_wp2_with fail;have h1:=St.own_nil 3 1 (St.own_nil 5 1 (St.own_nil 3 1 (H.out.alloc (.cells #[.slice none 0 0,.slice none 0 0,.slice none 0 0] 213))));generalize hB:w.heap.size=B at*
 generalize hW:w.alloc (.cells #[.slice none 0 0,.slice none 0 0,.slice none 0 0] 213)=W at*
 have hL:∃ va vl vg,StL w0 W (ek B 0 va vl vg (List.replicate 0 (-1)) ((List.range 0).map UInt8.ofNat) (List.replicate 0 1) F):=by
  refine⟨.slice none 0 0,.slice none 0 0,.slice none 0 0,St.perm h1 ?_⟩;simp only[ek,cX,oJ,List.range_zero,gC];rw[fS F bw,cV]
 have HL:=ac hL;clear hL h1 H hW hB
 go_loopw [5] (fun v wr=>∃ k:Nat,k≤258∧v= .int .i64 k∧∃ va vl vg,StL w0 wr (ek B k va vl vg (List.replicate k (-1)) ((List.range k).map UInt8.ofNat) (List.replicate k 1) F)) (fun v _=>258-(intOf v).toNat)
 case atStart=>exact⟨0,by omega,rfl,HL.out⟩
 case round=>
  obtain⟨c,hc,rfl,va,vl,vg,hst⟩:=hrel
  by_cases hc2:c<258
  ·obtain⟨a1,k1,rfl⟩:=(hst.reads (i:=0) rfl).sub;obtain⟨a2,k2,rfl⟩:=(hst.reads (i:=1) rfl).sub;obtain⟨a3,k3,rfl⟩:=(hst.reads (i:=2) rfl).sub;have c0:=hst.cell (i:=3) rfl 0 rfl;have c1:=hst.cell (i:=3) rfl 1 rfl;have c2:=hst.cell (i:=3) rfl 2 rfl;have HS:=ac hst;clear hst;have hw8:IntKind.u8.wrap (c:Int)=((UInt8.ofNat c).toNat:Int):=by rw[IntKind.wrap_u8'];simp
   have hc0:(0:Int)≤c:=by omega
   have hc1:(c:Int)<258:=by omega
   generalize hd:UInt8.ofNat c=d at*
   have HD:=ac hd;clear hd;go_wp2_with fail;refine wp_region_noPanic ?_;refine io (S:=fun w':World=>w'.cell? ⟨B,0,none⟩=some (.slice a1 c k1)∧w'.cell? ⟨B,1,none⟩=some (.slice a2 c k2)∧w'.cell? ⟨B,2,none⟩=some (.slice a3 c k3)) (k:=23) (by kernel_rfl) ?_;have hS:(fun w':World=>w'.cell? ⟨B,0,none⟩=some (.slice a1 c k1)∧w'.cell? ⟨B,1,none⟩=some (.slice a2 c k2)∧w'.cell? ⟨B,2,none⟩=some (.slice a3 c k3)) wr.drew:=⟨c0,c1,c2⟩;refine ay 0 rfl (by kernel_rfl) rfl (fun _ _ _ h=>h) (by assumption) ⟨?_,fun w=> ?_,?_⟩;rotate_left
   ·(go_simp;try with_reducible rfl)
   simp only[Act.put,sA,sZ,sS];refine ay 1 rfl (by kernel_rfl) rfl (fun _ _ _ h=>h) (by assumption) ⟨?_,fun w=> ?_,?_⟩;rotate_left
   ·(go_simp;try with_reducible rfl)
   simp only[Act.put,sA,sZ,sS];refine ay 2 rfl (by kernel_rfl) rfl (fun _ _ _ h=>h) (by assumption) ⟨?_,fun w=> ?_,?_⟩;rotate_left
   ·(go_simp;try with_reducible rfl)
   simp only[Act.put,sA,sZ,sS];refine ay 3 rfl (by kernel_rfl) rfl (fun _ _ _ h=>h) (by assumption) ⟨?_,fun w=> ?_,?_⟩;rotate_left
   ·(go_simp;try with_reducible rfl)
   simp only[Act.put,sA,sZ,sS];refine ay 4 rfl (by kernel_rfl) rfl (fun _ _ _ h=>h) (by assumption) ⟨?_,fun w=> ?_,?_⟩;rotate_left
   ·(go_simp;try with_reducible rfl)
   simp only[Act.put,sA,sZ,sS];refine ay 5 rfl (by kernel_rfl) rfl (fun _ _ _ h=>h) (by assumption) ⟨?_,fun w=> ?_,?_⟩;rotate_left
   ·(go_simp;try with_reducible rfl)
   simp only[Act.put,sA,sZ,sS];refine dG 6 rfl (by kernel_rfl) rfl (fun _ _ _ h=>h) (by assumption) ⟨?_,fun w hSw=> ?_,?_⟩;rotate_left
   ·((try dsimp only at hSw);go_simp;try with_reducible rfl)
   simp only[Act.put,sA,sZ,sS];refine ay 9 rfl (by kernel_rfl) rfl (fun _ _ _ h=>h) (by assumption) ⟨?_,fun w=> ?_,?_⟩;rotate_left
   ·(go_simp;try with_reducible rfl)
   simp only[Act.put,sA,sZ,sS];refine ay 10 rfl (by kernel_rfl) rfl (fun _ _ _ h=>h) (by assumption) ⟨?_,fun w=> ?_,?_⟩;rotate_left
   ·(go_simp;try with_reducible rfl)
   simp only[Act.put,sA,sZ,sS];refine ay 11 rfl (by kernel_rfl) rfl (fun _ _ _ h=>h) (by assumption) ⟨?_,fun w=> ?_,?_⟩;rotate_left
   ·(go_simp;try with_reducible rfl)
   simp only[Act.put,sA,sZ,sS];refine dG 12 rfl (by kernel_rfl) rfl (fun _ _ _ h=>h) (by assumption) ⟨?_,fun w hSw=> ?_,?_⟩;rotate_left
   ·((try dsimp only at hSw);go_simp;try with_reducible rfl)
   simp only[Act.put,sA,sZ,sS];refine ay 13 rfl (by kernel_rfl) rfl (fun _ _ _ h=>h) (by assumption) ⟨?_,fun w=> ?_,?_⟩;rotate_left
   ·(go_simp;try with_reducible rfl)
   simp only[Act.put,sA,sZ,sS];refine ay 14 rfl (by kernel_rfl) rfl (fun _ _ _ h=>h) (by assumption) ⟨?_,fun w=> ?_,?_⟩;rotate_left
   ·(go_simp;try with_reducible rfl)
   simp only[Act.put,sA,sZ,sS];refine ay 17 rfl (by kernel_rfl) rfl (fun _ _ _ h=>h) (by assumption) ⟨?_,fun w=> ?_,?_⟩;rotate_left
   ·(go_simp;try with_reducible rfl)
   simp only[Act.put,sA,sZ,sS];refine ay 18 rfl (by kernel_rfl) rfl (fun _ _ _ h=>h) (by assumption) ⟨?_,fun w=> ?_,?_⟩;rotate_left
   ·(go_simp;try with_reducible rfl)
   simp only[Act.put,sA,sZ,sS];refine ay 19 rfl (by kernel_rfl) rfl (fun _ _ _ h=>h) (by assumption) ⟨?_,fun w=> ?_,?_⟩;rotate_left
   ·(go_simp;try with_reducible rfl)
   simp only[Act.put,sA,sZ,sS];refine dG 20 rfl (by kernel_rfl) rfl (fun _ _ _ h=>h) (by assumption) ⟨?_,fun w hSw=> ?_,?_⟩;rotate_left
   ·((try dsimp only at hSw);go_simp;try with_reducible rfl)
   simp only[Act.put,sA,sZ,sS];refine Bz (w0:=w0) (F:=F) (D:=blk B (.cells #[.slice a1 c k1,.slice a2 c k2,.slice a3 c k3] 213)) (fuel:=9)
    ⟨79,3,.slice a1 c k1,c,(List.replicate c (-1)).map jt,.int .i64 (-1)⟩ ⟨32,5,.slice a2 c k2,c,((List.range c).map UInt8.ofNat).map bv,.int .u8 d.toNat⟩ ⟨79,3,.slice a3 c k3,c,(List.replicate c 1).map iw,.int .i64 1⟩
    7 8 15 16 21 22 15 23 29 16 24 30 (by kernel_rfl) (by kernel_rfl) ?ok1 ?ok2 ?fy ?hb1 ?hb2 ?hb3 ?ha1 ?ha2 ?ha3 ?hS ?hend ?h0
   case ok1=>exact⟨⟨_,_,TI,by dsimp only;omega⟩,by dsimp only;unfold maxLen;omega,rfl⟩
   case ok2=>exact⟨⟨_,_,TB,by dsimp only;omega⟩,by dsimp only;unfold maxLen;omega,rfl⟩
   case fy=>exact⟨⟨_,_,TI,by dsimp only;omega⟩,by dsimp only;unfold maxLen;omega,rfl⟩
   case ha1=>
    intro u2 u3 v2 v3;refine⟨_,_,_,(by simp only[lI,dE,lL];rfl),rfl,rfl,fun u v=> ?_⟩;simp only[fA,Act.put,iN,eH,ft];exact⟨rfl,rfl,fun _=>trivial⟩
   case ha2=>
    intro u2 u3 v2 v3;refine⟨_,_,_,(by simp only[lI,dE,lL];rfl),rfl,rfl,fun u v=> ?_⟩;simp only[fA,Act.put,iN,eH,ft];exact⟨rfl,rfl,fun _=>trivial⟩
   case ha3=>
    intro u2 u3 v2 v3;refine⟨_,_,_,(by simp only[lI,dE,lL];rfl),rfl,rfl,fun u v=> ?_⟩;simp only[fA,Act.put,iN,eH,ft];exact⟨rfl,rfl,fun _=>trivial⟩
   case hS=>
    intro w' A hD hR;exact⟨hD.cell 0 rfl,hD.cell 1 rfl,hD.cell 2 rfl⟩
   case h0=>
    have:=HS.out.drew;rw[HD.out] at*
    simpa [L3,ip,gF,StL,cX,ek,cV] using this
   case hb1=>
    intro u2 u3 v1 v2 v3 u w' K hK;simp only[fA,iN,eH,ft] at hK ⊢;refine wpOp_step (by rfl) fun K' hK'=> ?_
    go_simp;exact hK' _ _ hK
   case hb2=>
    intro u1 u3 v1 v2 v3 u w' K hK;simp only[fA,iN,eH,ft] at hK ⊢;refine wpOp_step (by rfl) fun K' hK'=> ?_
    go_simp;exact hK' _ _ hK
   case hb3=>
    intro u1 u2 v1 v2 v3 u w' K hK;simp only[fA,iN,eH,ft] at hK ⊢;refine wpOp_step (by rfl) fun K' hK'=> ?_
    go_simp;exact hK' _ _ hK
   case hend=>
    intro u1 u2 u3 v1 v2 v3 w' h';simp only[fA,iN,eH,ft];have h':StL w0 w' [own 3 1 v1 (c+1) ((List.replicate c (-1)).map jt++[.int .i64 (-1)]),own 5 1 v2 (c+1) (((List.range c).map UInt8.ofNat).map bv++[.int .u8 d.toNat]),own 3 1 v3 (c+1) ((List.replicate c 1).map iw++[.int .i64 1]),blk B (.cells #[.slice a1 c k1,.slice a2 c k2,.slice a3 c k3] 213),F,own 3 1 u1 1 [.int .i64 (-1)],own 5 1 u2 1 [.int .u8 d.toNat],own 3 1 u3 1 [.int .i64 1]]:=h';obtain⟨x1,y1,rfl⟩:=(h'.reads (i:=0) rfl).sub;obtain⟨x2,y2,rfl⟩:=(h'.reads (i:=1) rfl).sub;obtain⟨x3,y3,rfl⟩:=(h'.reads (i:=2) rfl).sub;refine bq (i:=23) (by kernel_rfl) ?_;refine wpOp_step (by rfl) fun K hK=> ?_
    go_simp;refine hK _ _ ⟨fun e=>(by cases e),?_⟩;clear hK K;refine bq (i:=24) (by kernel_rfl) ?_;refine wpOp_step (by rfl) fun K hK=> ?_
    go_simp;refine hK _ _ ⟨fun e=>(by cases e),?_⟩;clear hK K;have f0:=h'.free (i:=3) rfl 0;have e0:=h'.cell (i:=3) rfl 0 rfl;have s0:=h'.set (i:=3) rfl 0 (.slice x1 (c+1:Nat) y1);clear h';have h':=s0;clear s0;refine bq (i:=25) (by kernel_rfl) ?_;refine wpOp_step (by rfl) fun K hK=> ?_
    go_simp;refine hK _ _ ⟨fun e=>(by cases e),?_⟩;clear hK K;refine bq (i:=26) (by kernel_rfl) ?_;refine wpOp_step (by rfl) fun K hK=> ?_
    go_simp;refine hK _ _ ⟨fun e=>(by cases e),?_⟩;clear hK K;refine bq (i:=27) (by kernel_rfl) ?_;refine wpOp_step (by rfl) fun K hK=> ?_
    go_simp;refine hK _ _ ⟨fun e=>(by cases e),?_⟩;clear hK K;have f1:=h'.free (i:=3) rfl 1;have e1:=h'.cell (i:=3) rfl 1 rfl;have s1:=h'.set (i:=3) rfl 1 (.slice x2 (c+1:Nat) y2);clear h';have h':=s1;clear s1;refine bq (i:=28) (by kernel_rfl) ?_;refine wpOp_step (by rfl) fun K hK=> ?_
    go_simp;refine hK _ _ ⟨fun e=>(by cases e),?_⟩;clear hK K;refine bq (i:=29) (by kernel_rfl) ?_;refine wpOp_step (by rfl) fun K hK=> ?_
    go_simp;refine hK _ _ ⟨fun e=>(by cases e),?_⟩;clear hK K;refine bq (i:=30) (by kernel_rfl) ?_;refine wpOp_step (by rfl) fun K hK=> ?_
    go_simp;refine hK _ _ ⟨fun e=>(by cases e),?_⟩;clear hK K;have f2:=h'.free (i:=3) rfl 2;have e2:=h'.cell (i:=3) rfl 2 rfl;have s2:=h'.set (i:=3) rfl 2 (.slice x3 (c+1:Nat) y3);clear h';have h':=s2;clear s2;refine bq (i:=31) (by kernel_rfl) ?_;refine wpOp_step (by rfl) fun K hK=> ?_
    go_simp;refine hK _ _ ⟨fun e=>(by cases e),?_⟩;clear hK K;refine⟨by kernel_rfl,NoPanic.normal ?_⟩;have HF:=ac h';clear h' f0 e0 f1 e1 f2 e2 hS c0 c1 c2 HS;go_wp2_with fail
    go_roundw
    case rel=>
     refine⟨c+1,by omega,by go_num,.slice x1 (c+1:Nat) y1,.slice x2 (c+1:Nat) y2,.slice x3 (c+1:Nat) y3,?_⟩;have hf:=HF.out;simp only[eH,ft,iN] at hf;have hf:=StL.take (l1:=[_,_,_,_,_]) hf;simp only[ek,iO,gT,List.map_append,cO,gC,HD.out];exact hf
    case measure=>simp [intOf];omega
  ·obtain rfl:c=258:=by omega
   have HS:=ac hst;clear hst;go_wp2_with fail;go_ret;exact⟨B,rfl,va,vl,vg,HS.out⟩
end Go.Proofs.YtboflbdniogcdaaGreatDoor
