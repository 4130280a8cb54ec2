/-
  Parts of a proof.
-/
import Derived.Maps.OwnSet
import Derived.DeepKeys4
import Derived.MapKept
import Derived.Test.YtboflbdniogcdaaGreatDoorK04
set_option linter.unusedVariables false
set_option linter.unusedSimpArgs false
set_option maxRecDepth 100000
set_option maxHeartbeats 100000000
namespace Go.Proofs.YtboflbdniogcdaaGreatDoor
open Go.RowKit Go.Mz
open Go.Maps (Keyed)
open Go.WideElems (Fit rd rg)
theorem BS:laidOutB Tryz.prog=true:=by kernel_rfl
theorem ux:(131:TypeId)<Tryz.prog.types.size:=of_decide_eq_true (by kernel_rfl)
theorem BT:(match Tryz.prog.underlying 131 with | some (.array _ _) | some (.struct _)=>true | _=>false)=true:=by rw[Tryz.underlying131]
theorem pk:Keyed Tryz.prog 131:=Keyed.of_law (deep_law_laid BS (m:=2) (by omega) ux (by kernel_rfl) BT)
theorem BU:Tryz.prog.keyType 131=true:=by kernel_rfl
theorem uy:Tryz.prog.cellsOf 131=2:=by kernel_rfl
theorem BV:Tryz.prog.cellsOf 3=1:=by kernel_rfl
def jC (p c:Nat):Value:= .agg #[.int .i64 p,.int .i64 c]
theorem BW:∃ n,Tryz.prog.types.size=n+1:=⟨Tryz.prog.types.size-1,(Nat.succ_pred_eq_of_pos (jq (Nat.zero_le _) ux)).symm⟩
theorem qX {p:Nat} (h:p<100000):(Lit.int .i64 (p:Int)).wf=true:=by
 simp [Lit.wf,IntKind.min,IntKind.max,IntKind.bits,IntKind.signed];omega
theorem BX {p c:Nat} (hp:p<100000) (hc:c<100000):∃ l,keyOf Tryz.prog 131 (jC p c)=some l:=by
 have hf:(jC p c).formed Tryz.prog 131=true:=by simp [jC,Value.formed,Tryz.underlying131,uy]
 obtain⟨n,hn⟩:=BW;have h1:=qX hp;have h2:=qX hc;refine Ji.1 ?_;rw[keyOf,Tryz.underlying131];simp only[BU,hf,Bool.and_self,if_true,Option.isSome_map];rw[hn];simp [Program.keyLits,jC,Value.cells,uy,BV,Tryz.underlying131,Tryz.underlying3,h1,h2,gX]
theorem BY {p c p' c':Nat} (h:jC p c=jC p' c'):p=p'∧c=c':=by
 simp [jC] at h;omega
def MapIs (D:DataW Unit) (M:fd):Prop:=Maps.IsMap D∧∀ (p c:Nat) (l:Lit),p<100000→c<256→keyOf Tryz.prog 131 (jC p c)=some l→
 Maps.has D l=(M p c).isSome∧∀ r,M p c=some r→D.atKey l (.lit (.int .i64 0))= .lit (.int .i64 (r:Int))
theorem MapIs.none:MapIs (.map []) gM:=⟨Maps.isMap_empty,fun p c l _ _ _=>⟨rfl,fun r h=>by cases h⟩⟩
theorem MapIs.put {D:DataW Unit} {M:fd} (h:MapIs D M) {p c r:Nat} {l:Lit} (hl:keyOf Tryz.prog 131 (jC p c)=some l):MapIs (D.put l (.lit (.int .i64 (r:Int)))) (gZ M p c r):=by
 refine⟨h.1.put _ _,fun p' c' l' h1 h2 hl'=> ?_⟩
 by_cases e:p'=p∧c'=c
 ·obtain⟨rfl,rfl⟩:=e;have:l'=l:=by rw[hl] at hl';exact(gm hl').symm
  subst this;rw[Maps.has_put_same h.1 (pk.key hl)];refine⟨by simp [gZ],fun r' hr=> ?_⟩;simp [gZ] at hr;subst hr;exact Maps.atKey_put_same h.1 (pk.key hl) _ _
 ·have hne:l'≠l:=fun e2=>by
   subst e2;exact e (BY (pk.inj hl' hl))
  rw[Maps.has_put_other hne];have hM:gZ M p c r p' c'=M p' c':=by simp [gZ,e]
  rw[hM];refine⟨(h.2 p' c' l' h1 h2 hl').1,fun r' hr=> ?_⟩;rw[Maps.atKey_put_other hne];exact(h.2 p' c' l' h1 h2 hl').2 r' hr
def ge (m n:Nat) (M:fd):SProp:=gt fun x:Array MapEntry × Nat=>
 iW (Fit (H:=Unit) Tryz.prog 131 (plainElem Tryz.prog 3) x.1 x.2∧x.1.size≤n∧MapIs (.map ((x.1.toList.map (rg Tryz.prog 131 (plainElem Tryz.prog 3))).foldr DataW.insert [])) M)*blk m (.map x.1 x.2)
theorem og {w0 w:World} {m n:Nat} {M:fd} {F:SProp} (h:St w0 w (ge m n M*F)):∃ D,MapIs D M∧w.ownsMap Tryz.prog 131 (plainElem Tryz.prog 3) m n D∧∃ es clock,St w0 w (blk m (.map es clock)*F):=by
 obtain⟨⟨es,clock⟩,h⟩:=h.ex_l;obtain⟨⟨h1,h2,h3⟩,h⟩:=(h.perm (bk _ _ _)).pure_l;exact⟨_,h3,⟨es,clock,h.at_,h1,h2,rfl⟩,es,clock,h⟩
theorem BZ {w0 w w':World} {m n n':Nat} {M M':fd} {F:SProp} (h:St w0 w (ge m n M*F)) {D:DataW Unit} (hD:MapIs D M') (ho:w'.ownsMap Tryz.prog 131 (plainElem Tryz.prog 3) m n' D) (hg:w.grownBy w' (some m)):St w0 w' (ge m n' M'*F):=by
 obtain⟨_,_,_,es,clock,h⟩:=og h;obtain⟨es',clock',g1,g2,g3,g4⟩:=ho;have:=h.upd hg.os hg.tape hg.output hg.size g1 (fun k hk hne=>hg.block k hk (by simpa using hne));exact St.mk_ex_l (es',clock') ((St.mk_pure_l ⟨g2,g3,g4 ▸ hD⟩ this).perm (bk _ _ _).symm)
theorem B5 {w0 w:World} {F:SProp} (h:St w0 w F):St w0 (w.alloc (.map #[] 0)) (ge w.heap.size 0 gM*F):=by
 obtain⟨es,clock,g1,g2,g3,g4⟩:=World.ownsMap_made (H:=Unit) w Tryz.prog 131 (plainElem Tryz.prog 3);have ha:=h.alloc (.map #[] 0);have e:=ha.at_;rw[e] at g1;cases g1;exact St.mk_ex_l (#[],0) ((St.mk_pure_l ⟨g2,g3,g4 ▸ MapIs.none⟩ ha).perm (bk _ _ _).symm)
theorem B6 {w0 w:World} {m n:Nat} {M:fd} {F:SProp} (h:St w0 w (ge m n M*F)):∃ w',(∀ ty,(Builtin.clear_ #[130] ty #[.map (some m)]).run Tryz.prog w= .ok (.tuple #[]) w')∧St w0 w' (ge m 0 gM*F):=by
 obtain⟨_,_,_,es,clock,h⟩:=og h;have hb:=h.at_;refine⟨{ w with heap:=w.heap.setIfInBounds m (.map #[] clock) },?_,?_⟩
 ·intro ty;simp [Builtin.clear_,run_underlying Tryz.underlying130,MapKept.run_getObj_map hb,MapKept.run_setObj_map _ hb,Result.andThen]
 ·have h2:=h.upd (w':={ w with heap:=w.heap.setIfInBounds m (.map #[] clock) }) rfl rfl rfl (by simp) (MapKept.heap_set hb).1 (fun k hk hne=>(MapKept.heap_set hb).2 k hne);exact St.mk_ex_l (#[],clock) ((St.mk_pure_l ⟨⟨by simp,MapKept.stamped_empty _,fun x hx=>by simp at hx⟩,by simp,MapIs.none⟩ h2).perm (bk _ _ _).symm)
end Go.Proofs.YtboflbdniogcdaaGreatDoor
