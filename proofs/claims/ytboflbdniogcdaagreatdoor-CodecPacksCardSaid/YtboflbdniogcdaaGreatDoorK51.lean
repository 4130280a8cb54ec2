/-
  Parts of a proof.
-/
import Derived.Great.Walk
import Derived.Deep.MidRow
import Derived.Test.YtboflbdniogcdaaGreatDoorK48
import Derived.Test.YtboflbdniogcdaaGreatDoorK50
set_option linter.unusedVariables false
set_option linter.unusedSimpArgs false
set_option maxRecDepth 100000
set_option maxHeartbeats 100000000
namespace Go.Proofs.YtboflbdniogcdaaGreatDoor.cpacks
open Go.RowKit Go.Mz Go.Proofs.YtboflbdniogcdaaGreatDoor
theorem Jh {w:World} (h:Lib.TabIs Tryz.prog w "strings.asciiSpace" .u8 Lib.asciiSpaceTab):eu w (Mz.old w):=fun w' s=>by
 have B:Below w.heap.size w w':=(s.perm ((eG _).symm.trans (fx _ _))).below;unfold Lib.TabIs World.var? at h ⊢;cases hg:Tryz.prog.globalNamed "strings.asciiSpace" with
 | none=>rw[hg] at h;simp at h
 | some g=>
  rw[hg] at h;simp only[Option.bind_some] at h ⊢;have hlt:g<w.heap.size:=by
   rcases cf g w.heap.size with h' | h'
   ·exact h'
   ·simp [kg h'] at h
  rw[B.block g hlt];exact h
theorem tab24 {w:World} (h:Lib.TabIs Tryz.prog w "strings.asciiSpace" .u8 Lib.asciiSpaceTab):eu w (old w):=Jh h
theorem yS (args:Array Value) (w:World):(callFunc 9 args).run Tryz.prog w= .ok (.enter 9 args) w:=pK Tryz.func9 (by kernel_rfl) rfl args w
theorem yT (args:Array Value) (w:World):(callFunc 10 args).run Tryz.prog w= .ok (.enter 10 args) w:=pK Tryz.func10 (by kernel_rfl) rfl args w
theorem nu {α β:Type} (f:α→β) (x y z:α):(#[x,y,z]:Array α).map f=#[f x,f y,f z]:=by simp
theorem walk (y:PartI) (o:Opt) (w:World) (hy:PartIn w y) (htab:Lib.TabIs Tryz.prog w "strings.asciiSpace" .u8 Lib.asciiSpaceTab):
  Calls Tryz.prog 3 #[y.val,o.v] w fun e w'=>e= .returned (.bool true)∧Below w.heap.size w w':=by
 obtain⟨W,H,per,wide,a0,c0,l⟩:=y;obtain⟨hrd,hlt,hiW,hiH,hip,hiw⟩:=hy;simp only at hrd hlt hiW hiH hip hiw;simp only[PartI.val];have hrd':=Stb.of_old hrd;have HT:=ac (tab24 htab);have HF:=ac (show ∀ w',St w w' (old w)→Below w.heap.size w w' from fun w' h=>(h.perm ((eG _).symm.trans (fx _ _))).below);obtain⟨L,hL⟩:∃ L,l.length=L:=⟨_,rfl⟩;rw[hL] at hrd' ⊢;have h3:=fy (St.init w) (.cells #[.int .i64 W,.int .i64 H,.int .i64 per,.int .i64 wide,.slice a0 L c0] 24) (.cells (bA o) 28);rw[show o.v= .agg (bA o) from rfl];have h4:=h3.perm (af _ _ _);have HLV:=ac (fun(P:Obj) (w':World) (h:St w w' (blk w.heap.size P*(blk (w.heap.size+1) (.cells (bA o) 28)*old w)))=>yK h (fun w' h=>HT.out w' h.right.right))
 by_cases hok:sN W H per
 rotate_left
 ·have HFB:=ac (I0 (wide:=wide) (a0:=a0) (L:=L) (c0:=c0) h4 hok);have H4:=ac h4;clear h3 h4 hrd hlt htab;go_enter Tryz.func3,Tryz.ntmps3;go_wp2_with (first
   | (go_at_call 7;refine(HLV.out _ _ H7.out).mono ?_;rintro e w8 ⟨rfl,h8⟩;have H8:=ac h8;clear h8 H7)
   | (go_at_call 7;refine(HLV.out _ _ H6.out).mono ?_;rintro e w7 ⟨rfl,h7⟩;have H7:=ac h7;clear h7 H6)
   | (refine np rfl 24 _ _ rfl H5.out rfl rfl (by show _=some 5;kernel_rfl) rfl rfl ?_)
   | (go_at_call 6;refine HFB.out.mono ?_;rintro e w5 ⟨rfl,h5⟩;have H5:=ac h5;have H6:=ac (h5.setRow #[.int .i64 W,.int .i64 H,.int .i64 per,.int .i64 wide,.slice a0 L c0]);clear h5 HFB H4)
   | (refine eW rfl 24 _ rfl H4.out rfl Tryz.underlying24 rfl (by show _=some 5;kernel_rfl) ?_))
  go_ret;exact⟨rfl,HF.out _ H8.out.right.right⟩
 have hok':=hok;obtain⟨b0,b1,b2,b3,b4,b5,b6⟩:=hok;obtain⟨Wn,rfl⟩:=nI (show 0≤W by omega);obtain⟨Hn,rfl⟩:=nI (show 0≤H by omega);obtain⟨pn,rfl⟩:=nI (show 0≤per by omega);obtain⟨n,hn⟩:∃ n,Wn*Hn*pn=n:=⟨_,rfl⟩;have hn2:n≤1500:=by
  have:((Wn*Hn*pn:Nat):Int)≤1500:=by simpa using b6
  omega
 have hn1:1≤n:=by rw[← hn];exact dv (dv (by omega:1≤Wn) (by omega:1≤Hn)) (by omega:1≤pn)
 have HFO:=ac (I1 (wide:=wide) (l:=l) (v:= .slice a0 L c0) h4 (by rw[hL];exact fun w' h=>hrd' w' h.right.right) hlt hok' hn);have HCL:=ac (IZ (wide:=wide) (n:=n) hlt);have HCN:=ac (IY l wide n);generalize ea l wide n=C at*
 have H4:=ac h4;clear h3 h4 hrd hlt htab hrd' hok';have T:=jX;have HCE:=ac (nV C);go_enter Tryz.func3,Tryz.ntmps3;go_wp2_with (first
  | (at_builtin;apply ag)
  | (go_at_call 7;refine(HLV2.out _ H6.out).mono ?_;rintro e w7 ⟨rfl,h7⟩;have H7:=ac h7;have p4:=(h7.alloc (.cells #[] 48)).right.cell 4 rfl;clear h7 H6)
  | (refine np rfl 24 _ _ rfl H5.out rfl rfl (by show _=some 5;kernel_rfl) rfl rfl ?_)
  | (go_at_call 6;refine HFO.out.mono ?_;rintro e w5 ⟨v1,rfl,h5⟩;obtain⟨a1,c1,rfl⟩:=h5.reads.sub;have h5':=h5.perm (af _ _ _);have H5:=ac h5';have H6:=ac (h5'.setRow #[.int .i64 (Wn:Int),.int .i64 (Hn:Int),.int .i64 (pn:Int),.int .i64 wide,.slice a1 n c1]);have HLV2:=ac (fun(w':World) (h:St w w' (blk w.heap.size (.cells #[.int .i64 (Wn:Int),.int .i64 (Hn:Int),.int .i64 (pn:Int),.int .i64 wide,.slice a1 n c1] 24)*(own 48 1 (.slice a1 n c1) n (C.map uv)*(blk (w.heap.size+1) (.cells (bA o) 28)*old w))))=>yK h (fun w' h=>HT.out w' h.right.right.right));clear h5 h5' HFO H4)
  | (refine eW rfl 24 _ rfl H4.out rfl Tryz.underlying24 rfl (by show _=some 5;kernel_rfl) ?_))
 generalize hgp:w.heap.size=gp at*
 have HGP:=ac hgp;clear hgp;have hlit:=H7.out.lit #[] 48 0 rfl (by decide);refine on (aC T rfl _ _ rfl rfl hlit rfl (hlit.right.right.reads) HCE.out (by unfold maxLen;omega) (by omega) ?_);intro v8 w8 h8 _;have h8:St w w8 (own 48 1 v8 (0+n) ([]++C.map uv)*(blk gp (.cells #[.int .i64 (Wn:Int),.int .i64 (Hn:Int),.int .i64 (pn:Int),.int .i64 wide,.slice a1 n c1] 24)*(own 48 1 (.slice a1 n c1) n (C.map uv)*(blk (gp+1) (.cells (bA o) 28)*old w)))):=h8;rw[bQ,ba] at h8;obtain⟨a2,c2,rfl⟩:=h8.reads.sub;have H10:=ac (h8.perm (show _=blk gp (.cells #[.int .i64 (Wn:Int),.int .i64 (Hn:Int),.int .i64 (pn:Int),.int .i64 wide,.slice a1 n c1] 24)*(blk (gp+1) (.cells (bA o) 28)*(own 48 1 (.slice a2 n c2) n (C.map uv)*(own 48 1 (.slice a1 n c1) n (C.map uv)*old w))) by ac_rfl));have H10':=ac (H10.out.perm (af _ _ _));clear hlit h8 H7 p4;go_wp2_with (first | (go_at_call 8;apply ag) | (refine eW rfl 24 _ rfl H10.out rfl Tryz.underlying24 rfl (by show _=some 5;kernel_rfl) ?_) | (refine eW rfl 28 _ rfl H10'.out rfl Tryz.underlying28 rfl (by show _=some 14;kernel_rfl) ?_));have h10:=H10.out;have HT10:eu w (blk gp (.cells #[.int .i64 (Wn:Int),.int .i64 (Hn:Int),.int .i64 (pn:Int),.int .i64 wide,.slice a1 n c1] 24)*(blk (gp+1) (.cells (bA o) 28)*(own 48 1 (.slice a2 n c2) n (C.map uv)*(own 48 1 (.slice a1 n c1) n (C.map uv)*old w)))):=fun w' h=>HT.out w' h.right.right.right.right
 have hcan:fp (Wn:Int) (Hn:Int) (pn:Int)=true:=by
  simp [fp];omega
 have HLG:=ac (fun(G:SProp) (w':World) (h:St w w' G)=>mB h o (pn:Int) wide);have HRG:=ac (fun(G:SProp) (w':World) (h:St w w' G)=>IH h o (pn:Int) wide);rw[show o.v= .agg (bA o) from rfl] at HLG HRG;obtain⟨bl,hbl⟩:∃ bl,o.legal (pn:Int) wide=bl:=⟨_,rfl⟩;rw[hbl] at HLG HRG;clear H10 H10';cases hleg:o.legal (pn:Int) wide
 case' false=>
  have HPK:=IK (wide:=wide) (a0:=a1) (L:=n) (c0:=c1) h10 o hcan (by rw[← hn];simp) hleg;rw[show o.v= .agg (bA o) from rfl] at HPK;refine on (HPK.mono ?_);rintro e w11 ⟨rfl,h11⟩;obtain⟨G,hG⟩:∃ G,G=own 48 1 (.slice a2 n c2) n (C.map uv)*(own 48 1 (.slice a1 n c1) n (C.map uv)*old w):=⟨_,rfl⟩;have HG2:=ac (fun(w':World) (h:St w w' G)=>show Reads w' 1 (.slice a2 n c2) n (C.map uv) by rw[hG] at h;exact h.reads);have HG1:=ac (fun(w':World) (h:St w w' G)=>show Reads w' 1 (.slice a1 n c1) n (C.map uv) by rw[hG] at h;exact h.right.reads);have HGO:=ac (fun(w':World) (h:St w w' G)=>show St w w' (old w) by rw[hG] at h;exact h.right.right);have H11:RowKit.Hid (St w w11 (blk gp (.cells #[.int .i64 (Wn:Int),.int .i64 (Hn:Int),.int .i64 (pn:Int),.int .i64 wide,.slice a1 n c1] 24)*(blk (gp+1) (.cells (bA o) 28)*G))):=ac (by rw[hG];exact h11);rw[hleg] at hbl;subst hbl;clear hG h11 HPK h10 HT10 hleg
 case' true=>
  obtain⟨g1,g2,g3,g4,g5,g6,g7,g8,g9⟩:=pR hleg;obtain⟨wn,rfl⟩:=nI (show 0≤wide by omega);have hCn:=HCN.out;have hall:∀ x∈C,x<2^wn:=fun x hx=>by
   have:=(HCL.out x hx).2 (by omega) (by omega);simpa using this
  have hl:Hn*(Wn*pn)=C.length:=by rw[hCn,← hn];simp only[jp,mc,iz]
  have HPK:=yJ h10 HT10 (l:=C) (v:= .slice a1 n c1) (W:=Wn) (H:=Hn) (per:=pn) (wide:=wn) (fun w' h=>by rw[hCn];exact h.right.right.right.reads) (fun x hx=>(HCL.out x hx).1) hl (by omega) (by omega) (by omega) o hcan hleg;rw[show o.v= .agg (bA o) from rfl] at HPK;simp only[jY] at HPK;refine on (HPK.mono ?_);rintro e w11 hd;obtain⟨v6,z,rfl,hz,h11⟩:=hd.1 hall;obtain⟨B,hB⟩:∃ B,(if o.low=true then z.map bK else z)=B:=⟨_,rfl⟩;have hBz:B.length=z.length:=by rw[← hB];split <;> simp
  rw[hB,← hBz] at h11;obtain⟨a6,c6,rfl⟩:=h11.reads.sub;have hmem:=lM (predict:=o.predict) (big:=o.big) (wide:=wn) (per:=pn) hl;have hJl:(aH (bV o.predict o.big wn pn (Wn*pn) C Hn)).length=Hn*((Wn*pn*wn+7)/8):=by rw[ns hmem,jL]
  have hwp:1≤Wn*pn:=dv (by omega:1≤Wn) (by omega:1≤pn);have hw1:1≤Wn*pn*wn:=dv hwp (by omega:1≤wn);have hJ10:(aH (bV o.predict o.big wn pn (Wn*pn) C Hn)).length≤10000:=by
   rw[hJl];have e1:Hn*((Wn*pn*wn+7)/8)≤Hn*(4*(Wn*pn)+1):=iV _ (by have:Wn*pn*wn≤Wn*pn*32:=iV _ (by omega);omega);have e2:Hn*(4*(Wn*pn)+1)=4*(Hn*(Wn*pn))+Hn:=by rw[mb,mc];omega
   rw[hl,hCn] at e2;omega
  have hzl:=TellS.len9 hz (by rw[jL];omega) (by omega) (by omega) (fun _ X hX=>by
   rw[hmem X hX];have e1:Wn*1≤Wn*pn:=iV _ (by omega);have e2:Wn*pn*1≤Wn*pn*wn:=iV _ (by omega);omega)
  have hfx:o.scheme=2∨o.scheme=3∨o.scheme=4→∃ Ps:List (List Nat),bV o.predict o.big wn pn (Wn*pn) C Hn=Ps.map (aq false)∧∀ P∈Ps,P.length=Wn∧Bit P:=by
   intro hs;obtain⟨hp,hw1⟩:=g6 hs;obtain rfl:pn=1:=by omega
   obtain rfl:wn=1:=by omega
   have hpr:o.predict=false:=by
    cases hp:o.predict with
    | false=>rfl
    | true=>have:=g8 hp;omega
   refine⟨(List.range Hn).map fun y=>dy 1 (cD C (Wn*1) y),?_,?_⟩
   ·rw[bV,eF,hpr];refine iU fun y _=> ?_
    show gO false o.big 1 1 (cD C (Wn*1) y)=aq false (dy 1 (cD C (Wn*1) y));rw[gO,bF];simp [cO]
   ·intro P hP;obtain⟨y,hy,rfl⟩:=bW.1 hP;have hy:=gJ.1 hy;refine⟨?_,yF _ _⟩;rw[lu,mA]
    ·omega
    ·rw[← hl,← dC];exact dW _ hy
  have HTO:=ac (fun(w':World) (F':SProp) (v:Value) (h:St w w' F') (hv:Stb w F' (fun w=>Reads w 1 v Hn ((bV o.predict o.big wn pn (Wn*pn) C Hn).map aQ)))=>Ja h (o:=o) hz (by omega) (by omega) (by rw[jL];omega) (by omega) hzl hfx (fun hs ht=>g7 hs ht) (fun X hX=>by rw[hmem X hX];omega) (v:=v) (by rw[jL];exact hv) (s:=⟨B.toArray⟩) (by rw[hB]));have HRW:=ac (fun(w':World) (F':SProp) (h:St w w' F') (hv:Stb w F' (fun w=>Reads w 1 (.slice a1 n c1) n (C.map uv)))=>I7 h (l:=C) (v:= .slice a1 n c1) (W:=Wn) (H:=Hn) (per:=pn) (wide:=wn) (by rw[hCn];exact hv) (by omega) (by omega) (by omega) (by omega) (by omega) (by omega) (by omega) hl (by omega) hall o (fun hp=>by have:=g8 hp;omega));rw[show o.v= .agg (bA o) from rfl] at HTO HRW;generalize bV o.predict o.big wn pn (Wn*pn) C Hn=RL at*
  obtain⟨G,hG⟩:∃ G,G=own 5 1 (.slice a6 B.length c6) B.length (B.map bv)*(own 48 1 (.slice a2 n c2) n (C.map uv)*(own 48 1 (.slice a1 n c1) n (C.map uv)*old w)):=⟨_,rfl⟩;have HG2:=ac (fun(w':World) (h:St w w' G)=>show Reads w' 1 (.slice a2 n c2) n (C.map uv) by rw[hG] at h;exact h.right.reads);have HG1:=ac (fun(w':World) (h:St w w' G)=>show Reads w' 1 (.slice a1 n c1) n (C.map uv) by rw[hG] at h;exact h.right.right.reads);have HGO:=ac (fun(w':World) (h:St w w' G)=>show St w w' (old w) by rw[hG] at h;exact h.right.right.right);have HG6:=ac (fun(w':World) (h:St w w' G)=>show Reads w' 1 (.slice a6 B.length c6) B.length (B.map bv) by rw[hG] at h;exact h.reads);have H11:RowKit.Hid (St w w11 (blk gp (.cells #[.int .i64 (Wn:Int),.int .i64 (Hn:Int),.int .i64 (pn:Int),.int .i64 (wn:Int),.slice a1 n c1] 24)*(blk (gp+1) (.cells (bA o) 28)*G))):=ac (by rw[hG];exact h11.perm (by ac_rfl));rw[hleg] at hbl;subst hbl;clear hBz hG h11 HPK h10 HT10 hleg hd hz hzl hfx hJ10 hJl hmem hB hall hl g1 g2 g3 g4 g5 g6 g7 g8 g9
 ·go_upto_region 6 with (fail)
  refine wp_region_noPanic ?_;refine gB (S:=fun w':World=>St w w' (blk gp (.cells #[.int .i64 (Wn:Int),.int .i64 (Hn:Int),.int .i64 (pn:Int),.int .i64 (wn:Int),.slice a1 n c1] 24)*(blk (gp+1) (.cells (bA o) 28)*G))) (k:=12) (by kernel_rfl) ?_;have hS:(fun w':World=>St w w' (blk gp (.cells #[.int .i64 (Wn:Int),.int .i64 (Hn:Int),.int .i64 (pn:Int),.int .i64 (wn:Int),.slice a1 n c1] 24)*(blk (gp+1) (.cells (bA o) 28)*G))) w11.drew:=H11.out.drew;refine cM 4 [0,2,6,8] (by kernel_rfl) (fun _ _ _ h=>h) (by assumption) ?_
  iterate 4
   refine cL rfl rfl ⟨?_,fun w=> ?_,?_⟩;rotate_left
   ·(go_simp;try with_reducible rfl)
   simp only[Act.put,sA,sZ,sS]
  refine cK ?_;refine fe 5 (i:=1) (oi:= ?_) (v:= ?_) ?_ (by kernel_rfl) (by kernel_rfl) (by kernel_rfl) (by kernel_rfl) (by kernel_rfl) (by kernel_rfl) (by kernel_rfl) (by decide) (by decide) (by decide) (fun _ _ _ h=>h.elim) (by assumption) (.inl ⟨?_,fun w9 hSw=> ?_⟩) ?_;rotate_left 2
  ·(simp only[fq,cY,e7];rfl)
  ·rfl
  ·(have f9:=hSw.cell 2 rfl;clear hSw;go_simp;try with_reducible rfl)
  simp only[Act.put,sA,sZ,sS];refine fe 5 (i:=3) (oi:= ?_) (v:= ?_) ?_ (by kernel_rfl) (by kernel_rfl) (by kernel_rfl) (by kernel_rfl) (by kernel_rfl) (by kernel_rfl) (by kernel_rfl) (by decide) (by decide) (by decide) (fun _ _ _ h=>h.elim) (by assumption) (.inl ⟨?_,fun w9 hSw=> ?_⟩) ?_;rotate_left 2
  ·(simp only[fq,cY,e7];rfl)
  ·rfl
  ·(have f9:=hSw.cell 3 rfl;clear hSw;go_simp;try with_reducible rfl)
  simp only[Act.put,sA,sZ,sS];refine fe 5 (i:=4) (oi:= ?_) (v:= .agg (bA o)) ?_ (by kernel_rfl) (by kernel_rfl) (by kernel_rfl) (by kernel_rfl) (by kernel_rfl) (by kernel_rfl) (by kernel_rfl) (by decide) (by decide) (by decide) (fun _ _ _ h=>h.elim) (by assumption) (.inl ⟨?_,fun w9 hSw=> ?_⟩) ?_;rotate_left 1
  ·(simp only[fq,cY,e7];rfl)
  ·rfl
  ·(exact pV 28 (.tmp 3) rfl (hSw.perm (af _ _ _)) rfl Tryz.underlying28 rfl (by show _=some 14;kernel_rfl))
  simp only[Act.put,sA,sZ,sS];refine fe 11 (i:=7) (oi:= ?_) (v:= ?_) ?_ (by kernel_rfl) (by kernel_rfl) (by kernel_rfl) (by kernel_rfl) (by kernel_rfl) (by kernel_rfl) (by kernel_rfl) (by decide) (by decide) (by decide) (fun _ _ _ h=>h.elim) (by assumption) (.inl ⟨?_,fun w9 hSw=> ?_⟩) ?_;rotate_left 2
  ·(simp only[fq,cY,e7];rfl)
  ·rfl
  ·(have f9:=hSw.cell 2 rfl;clear hSw;go_simp;try with_reducible rfl)
  simp only[Act.put,sA,sZ,sS];refine fe 11 (i:=9) (oi:= ?_) (v:= ?_) ?_ (by kernel_rfl) (by kernel_rfl) (by kernel_rfl) (by kernel_rfl) (by kernel_rfl) (by kernel_rfl) (by kernel_rfl) (by decide) (by decide) (by decide) (fun _ _ _ h=>h.elim) (by assumption) (.inl ⟨?_,fun w9 hSw=> ?_⟩) ?_;rotate_left 2
  ·(simp only[fq,cY,e7];rfl)
  ·rfl
  ·(have f9:=hSw.cell 3 rfl;clear hSw;go_simp;try with_reducible rfl)
  simp only[Act.put,sA,sZ,sS];refine fe 11 (i:=10) (oi:= ?_) (v:= .agg (bA o)) ?_ (by kernel_rfl) (by kernel_rfl) (by kernel_rfl) (by kernel_rfl) (by kernel_rfl) (by kernel_rfl) (by kernel_rfl) (by decide) (by decide) (by decide) (fun _ _ _ h=>h.elim) (by assumption) (.inl ⟨?_,fun w9 hSw=> ?_⟩) ?_;rotate_left 1
  ·(simp only[fq,cY,e7];rfl)
  ·rfl
  ·(exact pV 28 (.tmp 3) rfl (hSw.perm (af _ _ _)) rfl Tryz.underlying28 rfl (by show _=some 14;kernel_rfl))
  simp only[Act.put,sA,sZ,sS];refine yR (fun σ w'=>St w w' (blk gp (.cells #[.int .i64 (Wn:Int),.int .i64 (Hn:Int),.int .i64 (pn:Int),.int .i64 (wn:Int),.slice a1 n c1] 24)*(blk (gp+1) (.cells (bA o) 28)*G))∧(∀ v,σ 5=some v→v= .bool true)∧(∀ v,σ 11=some v→v= .bool true)) [5,11] 97 (fun σ w' h=>h.1) (by kernel_rfl) rfl ?_ 8 rfl ?_ ?_
  ·intro i hi σ a W9 K hσ hw hsz9 hev hval hI hK;obtain⟨hst,h5,h11⟩:=hI;have e34:a.eval (.tmp 34)= .int .i64 (pn:Int):=hev 34 (by decide);have e36:a.eval (.tmp 36)= .int .i64 (wn:Int):=hev 36 (by decide);have e37:a.eval (.tmp 37)= .agg (bA o):=hev 37 (by decide);have e40:a.eval (.tmp 40)= .int .i64 (pn:Int):=hev 40 (by decide);have e42:a.eval (.tmp 42)= .int .i64 (wn:Int):=hev 42 (by decide);have e43:a.eval (.tmp 43)= .agg (bA o):=hev 43 (by decide);clear hev;simp only[List.mem_cons,td,or_false] at hi
   rcases hi with rfl | rfl
   ·refine pT rfl rfl (.func 9) #[.tmp 34,.tmp 36,.tmp 37] _ rfl rfl ((nu _ _ _ _).trans (by rw[e34,e36,e37])) yS ((HLG.out _ _ hst).mono ?_);rintro e w' ⟨rfl,h⟩;exact⟨_,rfl,hK _ _ ⟨h,fun v hv=>(gm hv).symm,h11⟩⟩
   ·refine pT rfl rfl (.func 10) #[.tmp 40,.tmp 42,.tmp 43] _ rfl rfl ((nu _ _ _ _).trans (by rw[e40,e42,e43])) yT ((HRG.out _ _ hst).mono ?_);rintro e w' ⟨rfl,h⟩;exact⟨_,rfl,hK _ _ ⟨h,h5,fun v hv=>(gm hv).symm⟩⟩
  ·exact⟨hS,fun v h=>(by cases h),fun v h=>(by cases h)⟩
  intro vs W12 h12;obtain⟨hst,h5,h11⟩:=h12;have e5:vs 5= .bool true:=h5 (vs 5) rfl;have e11:vs 11= .bool true:=h11 (vs 11) rfl;clear h5 h11 hS H11
  change cJ _ _ _ _ _ _ _ _ (dQ _ [(38,vs 5),(44,vs 11)]) _
  rw[e5,e11];simp only[dQ,Act.put,l7,js,lQ];clear e5 e11;have hS:(fun w':World=>St w w' (blk gp (.cells #[.int .i64 (Wn:Int),.int .i64 (Hn:Int),.int .i64 (pn:Int),.int .i64 (wn:Int),.slice a1 n c1] 24)*(blk (gp+1) (.cells (bA o) 28)*G))) W12:=hst;refine aW (i:=12) (by kernel_rfl) ?_;refine wpOp_step (by rfl) fun K hK=> ?_
  go_simp;refine hK _ _ ⟨fun e=>hst,?_⟩;clear hK K
  try simp only[Act.put,sA,sZ,sS]
  refine aW (i:=13) (by kernel_rfl) ?_;refine wpOp_step (by rfl) fun K hK=> ?_
  go_simp;refine hK _ _ ⟨fun e=>hst,?_⟩;clear hK K
  try simp only[Act.put,sA,sZ,sS]
  refine AY (i:=14) (oi:=?_) (v:=?_) ?_ (by kernel_rfl) (by kernel_rfl) (by kernel_rfl) (by decide) (fun _ _ _ h=>h.elim) (by assumption) (.inl ⟨?_,fun w=>?_⟩) ?_
  rotate_left 2
  ·(simp only[List.getElem?_toArray,List.getElem?_cons_succ,List.getElem?_cons_zero];rfl)
  ·rfl
  ·(go_simp;try with_reducible rfl)
  simp only[Act.put,sA,sZ,sS]
  refine AY (i:=15) (oi:=?_) (v:=?_) ?_ (by kernel_rfl) (by kernel_rfl) (by kernel_rfl) (by decide) (fun _ _ _ h=>h.elim) (by assumption) (.inl ⟨?_,fun w=>?_⟩) ?_
  rotate_left 2
  ·(simp only[List.getElem?_toArray,List.getElem?_cons_succ,List.getElem?_cons_zero];rfl)
  ·rfl
  ·(go_simp;try with_reducible rfl)
  simp only[Act.put,sA,sZ,sS]
  have p4:=hst.cell 4 rfl;refine aW (i:=16) (by kernel_rfl) ?_;refine wpOp_step (by rfl) fun K hK=> ?_
  go_simp;refine hK _ _ ⟨fun e=>hst,?_⟩;clear hK K
  try simp only[Act.put,sA,sZ,sS]
  have HSM:=ac (sL (w:=W12) (a:=C) (b:=C) (va:= .slice a2 n c2) (vb:= .slice a1 n c1) (by rw[HCN.out];exact HG2.out _ hst.right.right) (by rw[HCN.out];exact HG1.out _ hst.right.right) (by rw[HCN.out];omega) (fun x hx=>(HCL.out x hx).1) (fun x hx=>(HCL.out x hx).1));rw[show decide (C=C)=true from decide_eq_true rfl] at HSM;refine aW (i:=17) (by kernel_rfl) ?_;refine wpOp_step (by rfl) fun K hK=> ?_
  go_simp;refine HSM.out.mono ?_;rintro e W13 ⟨rfl,qd,rfl⟩;have hst:=hst.drewN qd;refine hK _ _ ⟨fun e=>hst,?_⟩;clear hK K HSM p4 hS;have hS:(fun w':World=>St w w' (blk gp (.cells #[.int .i64 (Wn:Int),.int .i64 (Hn:Int),.int .i64 (pn:Int),.int .i64 (wn:Int),.slice a1 n c1] 24)*(blk (gp+1) (.cells (bA o) 28)*G))) (W12.drewN qd):=hst
  try simp only[Act.put,sA,sZ,sS]
  refine aW (i:=18) (by kernel_rfl) ?_;refine wpOp_step (by rfl) fun K hK=> ?_
  go_simp;refine hK _ _ ⟨fun e=>hst,?_⟩;clear hK K
  try simp only[Act.put,sA,sZ,sS]
  refine aW (i:=19) (by kernel_rfl) ?_;refine wpOp_step (by rfl) fun K hK=> ?_
  go_simp;refine hK _ _ ⟨fun e=>hst,?_⟩;clear hK K
  try simp only[Act.put,sA,sZ,sS]
  refine⟨by kernel_rfl,NoPanic.normal ?_⟩;generalize W12.drewN qd=w13 at*
  have H13:=ac hst;have H13':=ac (hst.perm (af _ _ _));have p0:=hst.cell 0 rfl;have p1:=hst.cell 1 rfl;have p2:=hst.cell 2 rfl;have p3:=hst.cell 3 rfl;have p4:=hst.cell 4 rfl;clear hst hS;go_wp2_with (first
   | (go_at_call 12;fail)
   | (go_at_call 12;refine(HRW.out _ _ H14.out (fun w' h=>HG1.out w' h.right.right)).mono ?_;rintro e w15 ⟨v15,rfl,h15⟩;have H15:=ac h15;have H15':=ac (h15.perm (show _=blk (gp+1) (.cells (bA o) 28)*(own 9 1 v15 Hn (RL.map aQ)*(blk gp (.cells #[.int .i64 (Wn:Int),.int .i64 (Hn:Int),.int .i64 (pn:Int),.int .i64 (wn:Int),.slice a1 n c1] 24)*G)) by ac_rfl));have r0:=h15.right.cell 0 rfl;have z0:=H15'.out.cell 0 rfl;have z1:=H15'.out.cell 1 rfl;have z2:=H15'.out.cell 2 rfl;have z3:=H15'.out.cell 3 rfl;have z4:=H15'.out.cell 4 rfl;have z5:=H15'.out.cell 5 rfl;have z6:=H15'.out.cell 6 rfl;have z7:=H15'.out.cell 7 rfl;have z8:=H15'.out.cell 8 rfl;have z9:=H15'.out.cell 9 rfl;have z10:=H15'.out.cell 10 rfl;have z11:=H15'.out.cell 11 rfl;have z12:=H15'.out.cell 12 rfl;have z13:=H15'.out.cell 13 rfl;  have q1:=lj (P:=Tryz.prog) (bs:=B) Tryz.underlying32 Tryz.underlying5 Tryz.underlying9 (HG6.out _ h15.right.right.right);clear h15 HRW H14 H14' s0 s1 s2 s3 s4)
   | (go_at_call 13;refine(HTO.out _ _ v15 H15.out (fun w' h=>h.reads)).mono ?_;rintro e w16 ⟨rfl,h16⟩;have H16:=ac h16;clear h16 HTO)
   | (go_at_call 10;refine(HRG.out _ _ H13.out).mono ?_;rintro e w14 ⟨rfl,h14⟩;have H14:=ac h14;have H14':=ac (h14.perm (af _ _ _));have s0:=h14.cell 0 rfl;have s1:=h14.cell 1 rfl;have s2:=h14.cell 2 rfl;have s3:=h14.cell 3 rfl;have s4:=h14.cell 4 rfl;clear h14 HRG p0 p1 p2 p3 p4)
   | (refine eW rfl 28 _ rfl H14'.out rfl Tryz.underlying28 rfl (by show _=some 14;kernel_rfl) ?_)
   | (refine eW rfl 28 _ rfl H13'.out rfl Tryz.underlying28 rfl (by show _=some 14;kernel_rfl) ?_))
  go_ret;exact⟨by first | rfl | simp,by rw[HGP.out];exact HF.out _ (HGO.out _ H16.out.right.right.right)⟩
 ·go_upto_region 6 with (fail)
  refine wp_region_noPanic ?_;refine gB (S:=fun w':World=>St w w' (blk gp (.cells #[.int .i64 (Wn:Int),.int .i64 (Hn:Int),.int .i64 (pn:Int),.int .i64 wide,.slice a1 n c1] 24)*(blk (gp+1) (.cells (bA o) 28)*G))) (k:=12) (by kernel_rfl) ?_;have hS:(fun w':World=>St w w' (blk gp (.cells #[.int .i64 (Wn:Int),.int .i64 (Hn:Int),.int .i64 (pn:Int),.int .i64 wide,.slice a1 n c1] 24)*(blk (gp+1) (.cells (bA o) 28)*G))) w11.drew:=H11.out.drew;refine cM 4 [0,2,6,8] (by kernel_rfl) (fun _ _ _ h=>h) (by assumption) ?_
  iterate 4
   refine cL rfl rfl ⟨?_,fun w=> ?_,?_⟩;rotate_left
   ·(go_simp;try with_reducible rfl)
   simp only[Act.put,sA,sZ,sS]
  refine cK ?_;refine fe 5 (i:=1) (oi:= ?_) (v:= ?_) ?_ (by kernel_rfl) (by kernel_rfl) (by kernel_rfl) (by kernel_rfl) (by kernel_rfl) (by kernel_rfl) (by kernel_rfl) (by decide) (by decide) (by decide) (fun _ _ _ h=>h.elim) (by assumption) (.inl ⟨?_,fun w9 hSw=> ?_⟩) ?_;rotate_left 2
  ·(simp only[fq,cY,e7];rfl)
  ·rfl
  ·(have f9:=hSw.cell 2 rfl;clear hSw;go_simp;try with_reducible rfl)
  simp only[Act.put,sA,sZ,sS];refine fe 5 (i:=3) (oi:= ?_) (v:= ?_) ?_ (by kernel_rfl) (by kernel_rfl) (by kernel_rfl) (by kernel_rfl) (by kernel_rfl) (by kernel_rfl) (by kernel_rfl) (by decide) (by decide) (by decide) (fun _ _ _ h=>h.elim) (by assumption) (.inl ⟨?_,fun w9 hSw=> ?_⟩) ?_;rotate_left 2
  ·(simp only[fq,cY,e7];rfl)
  ·rfl
  ·(have f9:=hSw.cell 3 rfl;clear hSw;go_simp;try with_reducible rfl)
  simp only[Act.put,sA,sZ,sS];refine fe 5 (i:=4) (oi:= ?_) (v:= .agg (bA o)) ?_ (by kernel_rfl) (by kernel_rfl) (by kernel_rfl) (by kernel_rfl) (by kernel_rfl) (by kernel_rfl) (by kernel_rfl) (by decide) (by decide) (by decide) (fun _ _ _ h=>h.elim) (by assumption) (.inl ⟨?_,fun w9 hSw=> ?_⟩) ?_;rotate_left 1
  ·(simp only[fq,cY,e7];rfl)
  ·rfl
  ·(exact pV 28 (.tmp 3) rfl (hSw.perm (af _ _ _)) rfl Tryz.underlying28 rfl (by show _=some 14;kernel_rfl))
  simp only[Act.put,sA,sZ,sS];refine fe 11 (i:=7) (oi:= ?_) (v:= ?_) ?_ (by kernel_rfl) (by kernel_rfl) (by kernel_rfl) (by kernel_rfl) (by kernel_rfl) (by kernel_rfl) (by kernel_rfl) (by decide) (by decide) (by decide) (fun _ _ _ h=>h.elim) (by assumption) (.inl ⟨?_,fun w9 hSw=> ?_⟩) ?_;rotate_left 2
  ·(simp only[fq,cY,e7];rfl)
  ·rfl
  ·(have f9:=hSw.cell 2 rfl;clear hSw;go_simp;try with_reducible rfl)
  simp only[Act.put,sA,sZ,sS];refine fe 11 (i:=9) (oi:= ?_) (v:= ?_) ?_ (by kernel_rfl) (by kernel_rfl) (by kernel_rfl) (by kernel_rfl) (by kernel_rfl) (by kernel_rfl) (by kernel_rfl) (by decide) (by decide) (by decide) (fun _ _ _ h=>h.elim) (by assumption) (.inl ⟨?_,fun w9 hSw=> ?_⟩) ?_;rotate_left 2
  ·(simp only[fq,cY,e7];rfl)
  ·rfl
  ·(have f9:=hSw.cell 3 rfl;clear hSw;go_simp;try with_reducible rfl)
  simp only[Act.put,sA,sZ,sS];refine fe 11 (i:=10) (oi:= ?_) (v:= .agg (bA o)) ?_ (by kernel_rfl) (by kernel_rfl) (by kernel_rfl) (by kernel_rfl) (by kernel_rfl) (by kernel_rfl) (by kernel_rfl) (by decide) (by decide) (by decide) (fun _ _ _ h=>h.elim) (by assumption) (.inl ⟨?_,fun w9 hSw=> ?_⟩) ?_;rotate_left 1
  ·(simp only[fq,cY,e7];rfl)
  ·rfl
  ·(exact pV 28 (.tmp 3) rfl (hSw.perm (af _ _ _)) rfl Tryz.underlying28 rfl (by show _=some 14;kernel_rfl))
  simp only[Act.put,sA,sZ,sS];refine yR (fun σ w'=>St w w' (blk gp (.cells #[.int .i64 (Wn:Int),.int .i64 (Hn:Int),.int .i64 (pn:Int),.int .i64 wide,.slice a1 n c1] 24)*(blk (gp+1) (.cells (bA o) 28)*G))∧(∀ v,σ 5=some v→v= .bool false)∧(∀ v,σ 11=some v→v= .bool false)) [5,11] 97 (fun σ w' h=>h.1) (by kernel_rfl) rfl ?_ 8 rfl ?_ ?_
  ·intro i hi σ a W9 K hσ hw hsz9 hev hval hI hK;obtain⟨hst,h5,h11⟩:=hI;have e34:a.eval (.tmp 34)= .int .i64 (pn:Int):=hev 34 (by decide);have e36:a.eval (.tmp 36)= .int .i64 wide:=hev 36 (by decide);have e37:a.eval (.tmp 37)= .agg (bA o):=hev 37 (by decide);have e40:a.eval (.tmp 40)= .int .i64 (pn:Int):=hev 40 (by decide);have e42:a.eval (.tmp 42)= .int .i64 wide:=hev 42 (by decide);have e43:a.eval (.tmp 43)= .agg (bA o):=hev 43 (by decide);clear hev;simp only[List.mem_cons,td,or_false] at hi
   rcases hi with rfl | rfl
   ·refine pT rfl rfl (.func 9) #[.tmp 34,.tmp 36,.tmp 37] _ rfl rfl ((nu _ _ _ _).trans (by rw[e34,e36,e37])) yS ((HLG.out _ _ hst).mono ?_);rintro e w' ⟨rfl,h⟩;exact⟨_,rfl,hK _ _ ⟨h,fun v hv=>(gm hv).symm,h11⟩⟩
   ·refine pT rfl rfl (.func 10) #[.tmp 40,.tmp 42,.tmp 43] _ rfl rfl ((nu _ _ _ _).trans (by rw[e40,e42,e43])) yT ((HRG.out _ _ hst).mono ?_);rintro e w' ⟨rfl,h⟩;exact⟨_,rfl,hK _ _ ⟨h,h5,fun v hv=>(gm hv).symm⟩⟩
  ·exact⟨hS,fun v h=>(by cases h),fun v h=>(by cases h)⟩
  intro vs W12 h12;obtain⟨hst,h5,h11⟩:=h12;have e5:vs 5= .bool false:=h5 (vs 5) rfl;have e11:vs 11= .bool false:=h11 (vs 11) rfl;clear h5 h11 hS H11
  change cJ _ _ _ _ _ _ _ _ (dQ _ [(38,vs 5),(44,vs 11)]) _
  rw[e5,e11];simp only[dQ,Act.put,l7,js,lQ];clear e5 e11;have hS:(fun w':World=>St w w' (blk gp (.cells #[.int .i64 (Wn:Int),.int .i64 (Hn:Int),.int .i64 (pn:Int),.int .i64 wide,.slice a1 n c1] 24)*(blk (gp+1) (.cells (bA o) 28)*G))) W12:=hst;refine aW (i:=12) (by kernel_rfl) ?_;refine wpOp_step (by rfl) fun K hK=> ?_
  go_simp;refine hK _ _ ⟨fun e=>hst,?_⟩;clear hK K
  try simp only[Act.put,sA,sZ,sS]
  refine aW (i:=13) (by kernel_rfl) ?_;refine wpOp_step (by rfl) fun K hK=> ?_
  go_simp;refine hK _ _ ⟨fun e=>hst,?_⟩;clear hK K
  try simp only[Act.put,sA,sZ,sS]
  refine AY (i:=14) (oi:=?_) (v:=?_) ?_ (by kernel_rfl) (by kernel_rfl) (by kernel_rfl) (by decide) (fun _ _ _ h=>h.elim) (by assumption) (.inl ⟨?_,fun w=>?_⟩) ?_
  rotate_left 2
  ·(simp only[List.getElem?_toArray,List.getElem?_cons_succ,List.getElem?_cons_zero];rfl)
  ·rfl
  ·(go_simp;try with_reducible rfl)
  simp only[Act.put,sA,sZ,sS]
  refine AY (i:=15) (oi:=?_) (v:=?_) ?_ (by kernel_rfl) (by kernel_rfl) (by kernel_rfl) (by decide) (fun _ _ _ h=>h.elim) (by assumption) (.inl ⟨?_,fun w=>?_⟩) ?_
  rotate_left 2
  ·(simp only[List.getElem?_toArray,List.getElem?_cons_succ,List.getElem?_cons_zero];rfl)
  ·rfl
  ·(go_simp;try with_reducible rfl)
  simp only[Act.put,sA,sZ,sS]
  have p4:=hst.cell 4 rfl;refine aW (i:=16) (by kernel_rfl) ?_;refine wpOp_step (by rfl) fun K hK=> ?_
  go_simp;refine hK _ _ ⟨fun e=>hst,?_⟩;clear hK K
  try simp only[Act.put,sA,sZ,sS]
  have HSM:=ac (sL (w:=W12) (a:=C) (b:=C) (va:= .slice a2 n c2) (vb:= .slice a1 n c1) (by rw[HCN.out];exact HG2.out _ hst.right.right) (by rw[HCN.out];exact HG1.out _ hst.right.right) (by rw[HCN.out];omega) (fun x hx=>(HCL.out x hx).1) (fun x hx=>(HCL.out x hx).1));rw[show decide (C=C)=true from decide_eq_true rfl] at HSM;refine aW (i:=17) (by kernel_rfl) ?_;refine wpOp_step (by rfl) fun K hK=> ?_
  go_simp;refine HSM.out.mono ?_;rintro e W13 ⟨rfl,qd,rfl⟩;have hst:=hst.drewN qd;refine hK _ _ ⟨fun e=>hst,?_⟩;clear hK K HSM p4 hS;have hS:(fun w':World=>St w w' (blk gp (.cells #[.int .i64 (Wn:Int),.int .i64 (Hn:Int),.int .i64 (pn:Int),.int .i64 wide,.slice a1 n c1] 24)*(blk (gp+1) (.cells (bA o) 28)*G))) (W12.drewN qd):=hst
  try simp only[Act.put,sA,sZ,sS]
  refine aW (i:=18) (by kernel_rfl) ?_;refine wpOp_step (by rfl) fun K hK=> ?_
  go_simp;refine hK _ _ ⟨fun e=>hst,?_⟩;clear hK K
  try simp only[Act.put,sA,sZ,sS]
  refine aW (i:=19) (by kernel_rfl) ?_;refine wpOp_step (by rfl) fun K hK=> ?_
  go_simp;refine hK _ _ ⟨fun e=>hst,?_⟩;clear hK K
  try simp only[Act.put,sA,sZ,sS]
  refine⟨by kernel_rfl,NoPanic.normal ?_⟩;generalize W12.drewN qd=w13 at*
  have H13:=ac hst;have H13':=ac (hst.perm (af _ _ _));have p0:=hst.cell 0 rfl;have p1:=hst.cell 1 rfl;have p2:=hst.cell 2 rfl;have p3:=hst.cell 3 rfl;have p4:=hst.cell 4 rfl;clear hst hS;go_wp2_with (first
   | (go_at_call 10;refine(HRG.out _ _ H13.out).mono ?_;rintro e w14 ⟨rfl,h14⟩;have H14:=ac h14;clear h14 HRG)
   | (refine eW rfl 28 _ rfl H13'.out rfl Tryz.underlying28 rfl (by show _=some 14;kernel_rfl) ?_))
  go_ret;exact⟨by first | rfl | simp,by rw[HGP.out];exact HF.out _ (HGO.out _ H14.out.right.right)⟩
end Go.Proofs.YtboflbdniogcdaaGreatDoor.cpacks
