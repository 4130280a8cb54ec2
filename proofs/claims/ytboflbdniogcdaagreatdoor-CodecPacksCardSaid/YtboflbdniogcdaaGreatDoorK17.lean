/-
  Parts of a proof.
-/
import Derived.Test.YtboflbdniogcdaaGreatDoorK12
import Derived.Test.YtboflbdniogcdaaGreatDoorK16
set_option linter.unusedVariables false
set_option linter.unusedSimpArgs false
set_option maxRecDepth 100000
set_option maxHeartbeats 100000000
namespace Go.Proofs.YtboflbdniogcdaaGreatDoor
open Go.RowKit Go.Mz
def bA (o:Opt):Array Value:=#[.bool o.big,.bool o.large,.bool o.tiled,.int .i64 o.w,.int .i64 o.h,.bool o.planar,.int .i64 o.scheme,.bool o.predict,.bool o.low,.bool o.two,.int .i64 o.every,.bool o.al,.bool o.fin,.int .i64 o.how]
theorem B9 {w0 w:World} {F:SProp} (h:St w0 w F) {R:List (Value × List UInt8)} {v:Value} (hv:Stb w0 F (fun w=>Reads w 1 v R.length (R.map Prod.fst))) (hr:Stb w0 F (fun w=>∀ x∈R,Reads w 1 x.1 x.2.length (x.2.map bv))) (hN:R.length≤1000000) (hL:(aH (R.map Prod.snd)).length≤1000000000) (o:Opt) (hs:o.scheme=1) (p:Array Value):
  Calls Tryz.prog 18 #[v,.agg p,o.v] w fun e w'=>∃ v',e= .returned (.tuple #[v',.int .i64 0])∧St w0 w' (own 5 1 v' (aH (R.map Prod.snd)).length ((aH (R.map Prod.snd)).map bv)*F):=by
 obtain⟨big,large,tiled,ow,oh,planar,scheme,predict,low,two,every,al,fin,how⟩:=o;simp only[Opt.v];simp only at hs;subst hs;have h3:=fy h (.cells p 24) (.cells #[.bool big,.bool large,.bool tiled,.int .i64 ow,.int .i64 oh,.bool planar,.int .i64 1,.bool predict,.bool low,.bool two,.int .i64 every,.bool al,.bool fin,.int .i64 how] 28);have f6:=h3.cell 6 rfl;have HJ:=ac (oc h3 ((hv.more _).more _) ((hr.more _).more _) hN hL);clear h hv hr h3;go_enter Tryz.func18,Tryz.ntmps18;go_wp2_with (go_at_call 41;refine HJ.out.mono ?_;rintro e w2 ⟨v2,rfl,h2⟩;have H2:=ac ((h2.perm (af _ _ _)).right.perm (af _ _ _)).right;clear h2);go_ret2;exact⟨_,rfl,H2.out⟩
theorem Ca {w0 w:World} {F:SProp} (h:St w0 w F) {R:List (Value × List UInt8)} {v:Value} (hv:Stb w0 F (fun w=>Reads w 1 v R.length (R.map Prod.fst))) (hr:Stb w0 F (fun w=>∀ x∈R,Reads w 1 x.1 x.2.length (x.2.map bv))) (hN:R.length≤1000000) (hL:(aH (R.map Prod.snd)).length≤1000000000) (o:Opt) (hs:o.scheme=5) (p:Array Value):
  Calls Tryz.prog 18 #[v,.agg p,o.v] w fun e w'=>∃ v',e= .returned (.tuple #[v',.int .i64 0])∧St w0 w' (own 5 1 v' (aq false (br (aH (R.map Prod.snd)))).length ((aq false (br (aH (R.map Prod.snd)))).map bv)*F):=by
 obtain⟨big,large,tiled,ow,oh,planar,scheme,predict,low,two,every,al,fin,how⟩:=o;simp only[Opt.v];simp only at hs;subst hs;have h3:=fy h (.cells p 24) (.cells #[.bool big,.bool large,.bool tiled,.int .i64 ow,.int .i64 oh,.bool planar,.int .i64 5,.bool predict,.bool low,.bool two,.int .i64 every,.bool al,.bool fin,.int .i64 how] 28);have f6:=h3.cell 6 rfl;have HJ:=ac (oc h3 ((hv.more _).more _) ((hr.more _).more _) hN hL);clear h hv hr h3;obtain⟨J,hJ⟩:∃ J,aH (R.map Prod.snd)=J:=⟨_,rfl⟩;rw[hJ] at HJ hL ⊢;clear hJ;go_enter Tryz.func18,Tryz.ntmps18;go_wp2_with (first | (go_at_call 41;refine HJ.out.mono ?_;rintro e w2 ⟨v2,rfl,h2⟩;have HE:=ac (B8 h2 J (v:=v2) Stb.of_own hL);clear h2) | (go_at_call 40;refine HE.out.mono ?_;rintro e w3 ⟨v3,rfl,h3⟩;have H3:=ac (((h3.perm (af _ _ _)).right.perm (af _ _ _)).right.perm (af _ _ _)).right;clear h3));go_ret2;exact⟨_,rfl,H3.out⟩
end Go.Proofs.YtboflbdniogcdaaGreatDoor
