/-
  Parts of a proof.
-/
import Derived.Lib.Fields
import Derived.Test.YtboflbdniogcdaaGreatDoorK19
import Derived.Test.YtboflbdniogcdaaGreatDoorK22
set_option linter.unusedVariables false
set_option linter.unusedSimpArgs false
set_option maxRecDepth 100000
set_option maxHeartbeats 100000000
namespace Go.Proofs.YtboflbdniogcdaaGreatDoor
open Go.RowKit Go.Mz
def Dk (black:Bool):List (Nat × Nat):=cond black
 [(55,10),(2,3),(3,2),(2,2),(3,3),(3,4),(2,4),(3,5),(5,6),(4,6),(4,7),(5,7),(7,7),(4,8),(7,8),(24,9),(23,10),(24,10),(8,10),(103,11),(104,11),(108,11),(55,11),(40,11),(23,11),(24,11),(202,12),(203,12),(204,12),(205,12),(104,12),(105,12),(106,12),(107,12),(210,12),(211,12),(212,12),(213,12),(214,12),(215,12),(108,12),(109,12),(218,12),(219,12),(84,12),(85,12),(86,12),(87,12),(100,12),(101,12),(82,12),(83,12),(36,12),(55,12),(56,12),(39,12),(40,12),(88,12),(89,12),(43,12),(44,12),(90,12),(102,12),(103,12),(15,10),(200,12),(201,12),(91,12),(51,12),(52,12),(53,12),(108,13),(109,13),(74,13),(75,13),(76,13),(77,13),(114,13),(115,13),(116,13),(117,13),(118,13),(119,13),(82,13),(83,13),(84,13),(85,13),(90,13),(91,13),(100,13),(101,13),(8,11),(12,11),(13,11),(18,12),(19,12),(20,12),(21,12),(22,12),(23,12),(28,12),(29,12),(30,12),(31,12)]
 [(53,8),(7,6),(7,4),(8,4),(11,4),(12,4),(14,4),(15,4),(19,5),(20,5),(7,5),(8,5),(8,6),(3,6),(52,6),(53,6),(42,6),(43,6),(39,7),(12,7),(8,7),(23,7),(3,7),(4,7),(40,7),(43,7),(19,7),(36,7),(24,7),(2,8),(3,8),(26,8),(27,8),(18,8),(19,8),(20,8),(21,8),(22,8),(23,8),(40,8),(41,8),(42,8),(43,8),(44,8),(45,8),(4,8),(5,8),(10,8),(11,8),(82,8),(83,8),(84,8),(85,8),(36,8),(37,8),(88,8),(89,8),(90,8),(91,8),(74,8),(75,8),(50,8),(51,8),(52,8),(27,5),(18,5),(23,6),(55,7),(54,8),(55,8),(100,8),(101,8),(104,8),(103,8),(204,9),(205,9),(210,9),(211,9),(212,9),(213,9),(214,9),(215,9),(216,9),(217,9),(218,9),(219,9),(152,9),(153,9),(154,9),(24,6),(155,9),(8,11),(12,11),(13,11),(18,12),(19,12),(20,12),(21,12),(22,12),(23,12),(28,12),(29,12),(30,12),(31,12)]
def Dl:List (Nat × Nat):=[(2,7),(2,6),(2,3),(1,1),(3,3),(3,6),(3,7),(1,3),(1,4),(1,7)]
def oI (l:List (Nat × Nat)):List (List Nat):=l.map fun p=>ap p.1 p.2
def aI (black:Bool):List (List Nat):=oI (Dk black)
def aL:List (List Nat):=oI Dl
def bN:List Nat:=ap 1 12
def gE (i:Nat):Nat:=if i<64 then i else 64*(i-63)
def bx:List Int:=(List.range 104).map fun i=>((gE i:Nat):Int)
def gf:List Int:=(List.range 10).map fun(i:Nat)=>(i:Int)-3
def kF:List (List UInt8)→List UInt8
 | []=>[]
 | [w]=>w
 | w::r=>w++32::kF r
def ru:List (List Nat)→Bool
 | []=>true
 | w::r=>r.all (fun v=> !(w.isPrefixOf v)&& !(v.isPrefixOf w))&&ru r
theorem vy:∀ (W:List (List Nat)),ru W=true→PF W:=by
 intro W
 induction W with
 | nil=>intro _ i k v w _ hv;simp at hv
 | cons x W ih=>
  intro h;rw[ru,cS] at h;obtain⟨h1,h2⟩:=h;rw[qh] at h1;have key:∀ v∈W,¬ x <+:v∧¬ v <+:x:=fun v hv=>by
   have:=h1 v hv;simp only[cS,jR] at this;exact⟨fun hp=>Bool.noConfusion (this.1.symm.trans (nB.2 hp)),fun hp=>Bool.noConfusion (this.2.symm.trans (nB.2 hp))⟩
  intro i k v w hik hv hw hvn;cases i with
  | zero=>
   cases k with
   | zero=>exact absurd rfl hik
   | succ k=>
    simp at hv;subst hv;rw[cY] at hw;exact(key w (aG hw)).1
  | succ i=>
   rw[cY] at hv;cases k with
   | zero=>
    simp at hw;subst hw;exact(key v (aG hv)).2
   | succ k=>
    rw[cY] at hw;exact ih h2 i k v w (by omega) hv hw hvn
theorem Dm (black:Bool):PF (aI black):=by cases black <;> exact vy _ (by decide +kernel)
theorem Dn:PF aL:=vy _ (by decide +kernel)
theorem vz (l:List (Nat × Nat)):∀ w∈oI l,Bit w:=fun w hw=>by
 rw[oI,bW] at hw;obtain⟨p,_,rfl⟩:=hw;exact da _ _
theorem mL (black:Bool):∀ w∈aI black,Bit w:=vz _
theorem rv:∀ w∈aL,Bit w:=vz _
theorem jE (black:Bool):(aI black).length=104:=by cases black <;> rfl
theorem mM:aL.length=10:=rfl
theorem kG (black:Bool):∀ w∈aI black,1≤w.length∧w.length≤13:=by cases black <;> decide +kernel
theorem oJ:∀ w∈aL,1≤w.length∧w.length≤7:=by decide +kernel
theorem oK (black:Bool) {i:Nat} (h:i<104):∃ w,(aI black)[i]? =some w∧w≠[]:=by
 have hl:i<(aI black).length:=by rw[jE];exact h
 refine⟨_,ai hl,fun h0=> ?_⟩;have:=(kG black _ (bo hl)).1;rw[h0] at this;exact absurd this (by decide)
theorem rx:bx.length=104:=by simp [bx]
theorem Do:gf.length=10:=by simp [gf]
end Go.Proofs.YtboflbdniogcdaaGreatDoor
