/-
  Parts of a proof.
-/
import Derived.Test.YtboflbdniogcdaaGreatDoorK00
import Derived.Test.YtboflbdniogcdaaGreatDoorK15
import Derived.Test.YtboflbdniogcdaaGreatDoorK16
import Derived.Lib.Fields
set_option linter.unusedVariables false
set_option linter.unusedSimpArgs false
set_option maxRecDepth 100000
set_option maxHeartbeats 100000000
namespace Go.Proofs.YtboflbdniogcdaaGreatDoor
open Go.RowKit Go.Mz
def Dz (black:Bool):List (Nat × Nat):=cond black
 [(55,10),(2,3),(3,2),(2,2),(3,3),(3,4),(2,4),(3,5),(5,6),(4,6),(4,7),(5,7),(7,7),(4,8),(7,8),(24,9),(23,10),(24,10),(8,10),(103,11),(104,11),(108,11),(55,11),(40,11),(23,11),(24,11),(202,12),(203,12),(204,12),(205,12),(104,12),(105,12),(106,12),(107,12),(210,12),(211,12),(212,12),(213,12),(214,12),(215,12),(108,12),(109,12),(218,12),(219,12),(84,12),(85,12),(86,12),(87,12),(100,12),(101,12),(82,12),(83,12),(36,12),(55,12),(56,12),(39,12),(40,12),(88,12),(89,12),(43,12),(44,12),(90,12),(102,12),(103,12),(15,10),(200,12),(201,12),(91,12),(51,12),(52,12),(53,12),(108,13),(109,13),(74,13),(75,13),(76,13),(77,13),(114,13),(115,13),(116,13),(117,13),(118,13),(119,13),(82,13),(83,13),(84,13),(85,13),(90,13),(91,13),(100,13),(101,13),(8,11),(12,11),(13,11),(18,12),(19,12),(20,12),(21,12),(22,12),(23,12),(28,12),(29,12),(30,12),(31,12)]
 [(53,8),(7,6),(7,4),(8,4),(11,4),(12,4),(14,4),(15,4),(19,5),(20,5),(7,5),(8,5),(8,6),(3,6),(52,6),(53,6),(42,6),(43,6),(39,7),(12,7),(8,7),(23,7),(3,7),(4,7),(40,7),(43,7),(19,7),(36,7),(24,7),(2,8),(3,8),(26,8),(27,8),(18,8),(19,8),(20,8),(21,8),(22,8),(23,8),(40,8),(41,8),(42,8),(43,8),(44,8),(45,8),(4,8),(5,8),(10,8),(11,8),(82,8),(83,8),(84,8),(85,8),(36,8),(37,8),(88,8),(89,8),(90,8),(91,8),(74,8),(75,8),(50,8),(51,8),(52,8),(27,5),(18,5),(23,6),(55,7),(54,8),(55,8),(100,8),(101,8),(104,8),(103,8),(204,9),(205,9),(210,9),(211,9),(212,9),(213,9),(214,9),(215,9),(216,9),(217,9),(218,9),(219,9),(152,9),(153,9),(154,9),(24,6),(155,9),(8,11),(12,11),(13,11),(18,12),(19,12),(20,12),(21,12),(22,12),(23,12),(28,12),(29,12),(30,12),(31,12)]
def DA:List (Nat × Nat):=[(2,7),(2,6),(2,3),(1,1),(3,3),(3,6),(3,7),(1,3),(1,4),(1,7)]
def pK (l:List (Nat × Nat)):List (List Nat):=l.map fun p=>aE p.1 p.2
def aM (black:Bool):List (List Nat):=pK (Dz black)
def aP:List (List Nat):=pK DA
def eK:List Nat:=aE 1 12
def dm (i:Nat):Nat:=if i<64 then i else 64*(i-63)
def be:List Int:=(List.range 104).map fun i=>((dm i:Nat):Int)
def eL:List Int:=(List.range 10).map fun(i:Nat)=>(i:Int)-3
def sn:List (List Nat)→Bool
 | []=>true
 | w::r=>r.all (fun v=> !(w.isPrefixOf v)&& !(v.isPrefixOf w))&&sn r
theorem wM:∀ (W:List (List Nat)),sn W=true→PF W:=by
 intro W
 induction W with
 | nil=>intro _ i k v w _ hv;simp at hv
 | cons x W ih=>
  intro h;rw[sn,cR] at h;obtain⟨h1,h2⟩:=h;rw[kG] at h1;have key:∀ v∈W,¬ x <+:v∧¬ v <+:x:=fun v hv=>by
   have:=h1 v hv;simp only[cR,ka] at this;exact⟨fun hp=>Bool.noConfusion (this.1.symm.trans (oK.2 hp)),fun hp=>Bool.noConfusion (this.2.symm.trans (oK.2 hp))⟩
  intro i k v w hik hv hw hvn;cases i with
  | zero=>
   cases k with
   | zero=>exact absurd rfl hik
   | succ k=>
    simp at hv;subst hv;rw[dE] at hw;exact(key w (aI hw)).1
  | succ i=>
   rw[dE] at hv;cases k with
   | zero=>
    simp at hw;subst hw;exact(key v (aI hv)).2
   | succ k=>
    rw[dE] at hw;exact ih h2 i k v w (by omega) hv hw hvn
theorem pL (black:Bool):PF (aM black):=by cases black <;> exact wM _ (by decide +kernel)
theorem wN:PF aP:=wM _ (by decide +kernel)
theorem wO (l:List (Nat × Nat)):∀ w∈pK l,Bit w:=fun w hw=>by
 rw[pK,cu] at hw;obtain⟨p,_,rfl⟩:=hw;exact dp _ _
theorem nA (black:Bool):∀ w∈aM black,Bit w:=wO _
theorem so:∀ w∈aP,Bit w:=wO _
theorem ko (black:Bool):(aM black).length=104:=by cases black <;> rfl
theorem lg:aP.length=10:=rfl
theorem mh (black:Bool):∀ w∈aM black,1≤w.length∧w.length≤13:=by cases black <;> decide +kernel
theorem pM:∀ w∈aP,1≤w.length∧w.length≤7:=by decide +kernel
theorem lh (black:Bool) {i:Nat} (h:i<104):∃ w,(aM black)[i]? =some w∧w≠[]:=by
 have hl:i<(aM black).length:=by rw[ko];exact h
 refine⟨_,au hl,fun h0=> ?_⟩;have:=(mh black _ (cT hl)).1;rw[h0] at this;exact absurd this (by decide)
theorem pN:be.length=104:=by simp [be]
theorem wP:eL.length=10:=by simp [eL]
end Go.Proofs.YtboflbdniogcdaaGreatDoor
