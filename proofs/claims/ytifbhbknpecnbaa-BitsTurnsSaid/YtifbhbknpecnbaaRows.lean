/-
  No cell of these rows narrows 'for every input' (looked for: loops, veiled, ifaces, maps, wideKeys, modest, calm, conditions, laid).
  DERIVED. THE GIVEN ROWS OF THIS SEAT. 6 by the template 'for every input the law returns true; each argument reads behind the call as it read before'; 0 by the template 'total and deterministic' (their statements: YtifbhbknpecnbaaTotals.lean).
  GIVEN WITH THE SEED: the statements are not yours to turn. If you find one false, say at which input.
  Laid BY PROGRAM, IN A SANDBOX (cutbox-rows.mjs): the forced cells as the released guide's own fill.sh prints them over the translation 34fa3124b38d1ec3… (all of the seat's roots in one cut). By AI agents, Wed Nov 11 2026. No macro, syntax, notation, axiom, sorry.
-/
import Derived.Test.YtifbhbknpecnbaaChecked
import GoSem.Claim
import GoSem.ClaimJoined
import GoSem.ClaimMapViews
import Derived.JoinedTies
import Derived.KernelRfl
namespace Go.Proofs.Ytifbhbknpecnbaa
/- THE CELL 'sum', in the pinned program and in every row, IS THE sha256 OF THE DUMP (.gsa) THAT YtifbhbknpecnbaaProg.lean LOADS. Nothing in Lean hashes anything: it is a label: what it is worth is what the hold of that sum in a sandbox is worth. -/
noncomputable def Try.pinned : Pinned := { name := "ytifbhbknpecnbaa", sum := "34fa3124b38d1ec30eb99b55748a4278a72e6a0a7374cbfdf64fbcea8c0601f5", checked := Try.checked }
namespace Rows
def none {H : Type} : Left H := { results := [], args := [] }

/-- 'mezzotintlaw02.BitsPeeks': WHATEVER THE INPUT: true; the input reads as it did. -/
def bitsPeeksSpec : ChangeSpec := { name := "bitsPeeks", fn := fun _ => fun
  | [d1, d2, d3] => { results := [.lit (.bool true)], args := [d1, d2, d3] }
  | _ => none }
def bitsPeeksRow : OpenClaim := { program := "ytifbhbknpecnbaa", sum := "34fa3124b38d1ec30eb99b55748a4278a72e6a0a7374cbfdf64fbcea8c0601f5", func := "mezzotint/mezzotintlaw02.BitsPeeks", spec := "bitsPeeks", apart := false }
def BitsPeeksSaid : Prop := bitsPeeksRow.holds Try.pinned (OpenSpec.ofChange bitsPeeksSpec)

/-- ITS FALSE NEIGHBOUR: 'it returns false'. Refute it at one input. -/
def bitsPeeksWrong : ChangeSpec := { name := "bitsPeeks", fn := fun _ => fun
  | [d1, d2, d3] => { results := [.lit (.bool false)], args := [d1, d2, d3] }
  | _ => none }
def BitsPeeksWrongFalsely : Prop := bitsPeeksRow.holds Try.pinned (OpenSpec.ofChange bitsPeeksWrong)

/-- 'mezzotintlaw02.BitsReads': WHATEVER THE INPUT: true; the input reads as it did. -/
def bitsReadsSpec : ChangeSpec := { name := "bitsReads", fn := fun _ => fun
  | [d1, d2, d3] => { results := [.lit (.bool true)], args := [d1, d2, d3] }
  | _ => none }
def bitsReadsRow : OpenClaim := { program := "ytifbhbknpecnbaa", sum := "34fa3124b38d1ec30eb99b55748a4278a72e6a0a7374cbfdf64fbcea8c0601f5", func := "mezzotint/mezzotintlaw02.BitsReads", spec := "bitsReads", apart := false }
def BitsReadsSaid : Prop := bitsReadsRow.holds Try.pinned (OpenSpec.ofChange bitsReadsSpec)

/-- ITS FALSE NEIGHBOUR: 'it returns false'. Refute it at one input. -/
def bitsReadsWrong : ChangeSpec := { name := "bitsReads", fn := fun _ => fun
  | [d1, d2, d3] => { results := [.lit (.bool false)], args := [d1, d2, d3] }
  | _ => none }
def BitsReadsWrongFalsely : Prop := bitsReadsRow.holds Try.pinned (OpenSpec.ofChange bitsReadsWrong)

/-- 'mezzotintlaw02.BitsWrites': WHATEVER THE INPUT: true; the input reads as it did. -/
def bitsWritesSpec : ChangeSpec := { name := "bitsWrites", fn := fun _ => fun
  | [d1, d2] => { results := [.lit (.bool true)], args := [d1, d2] }
  | _ => none }
def bitsWritesRow : OpenClaim := { program := "ytifbhbknpecnbaa", sum := "34fa3124b38d1ec30eb99b55748a4278a72e6a0a7374cbfdf64fbcea8c0601f5", func := "mezzotint/mezzotintlaw02.BitsWrites", spec := "bitsWrites", apart := false }
def BitsWritesSaid : Prop := bitsWritesRow.holds Try.pinned (OpenSpec.ofChange bitsWritesSpec)

/-- ITS FALSE NEIGHBOUR: 'it returns false'. Refute it at one input. -/
def bitsWritesWrong : ChangeSpec := { name := "bitsWrites", fn := fun _ => fun
  | [d1, d2] => { results := [.lit (.bool false)], args := [d1, d2] }
  | _ => none }
def BitsWritesWrongFalsely : Prop := bitsWritesRow.holds Try.pinned (OpenSpec.ofChange bitsWritesWrong)

/-- 'mezzotintlaw02.BitsAgain': WHATEVER THE INPUT: true; the input reads as it did. -/
def bitsAgainSpec : ChangeSpec := { name := "bitsAgain", fn := fun _ => fun
  | [d1, d2] => { results := [.lit (.bool true)], args := [d1, d2] }
  | _ => none }
def bitsAgainRow : OpenClaim := { program := "ytifbhbknpecnbaa", sum := "34fa3124b38d1ec30eb99b55748a4278a72e6a0a7374cbfdf64fbcea8c0601f5", func := "mezzotint/mezzotintlaw02.BitsAgain", spec := "bitsAgain", apart := false }
def BitsAgainSaid : Prop := bitsAgainRow.holds Try.pinned (OpenSpec.ofChange bitsAgainSpec)

/-- ITS FALSE NEIGHBOUR: 'it returns false'. Refute it at one input. -/
def bitsAgainWrong : ChangeSpec := { name := "bitsAgain", fn := fun _ => fun
  | [d1, d2] => { results := [.lit (.bool false)], args := [d1, d2] }
  | _ => none }
def BitsAgainWrongFalsely : Prop := bitsAgainRow.holds Try.pinned (OpenSpec.ofChange bitsAgainWrong)

/-- 'mezzotintlaw02.BitsWords': WHATEVER THE INPUT: true; the input reads as it did. -/
def bitsWordsSpec : ChangeSpec := { name := "bitsWords", fn := fun _ => fun
  | [d1, d2] => { results := [.lit (.bool true)], args := [d1, d2] }
  | _ => none }
def bitsWordsRow : OpenClaim := { program := "ytifbhbknpecnbaa", sum := "34fa3124b38d1ec30eb99b55748a4278a72e6a0a7374cbfdf64fbcea8c0601f5", func := "mezzotint/mezzotintlaw02.BitsWords", spec := "bitsWords", apart := false }
def BitsWordsSaid : Prop := bitsWordsRow.holds Try.pinned (OpenSpec.ofChange bitsWordsSpec)

/-- ITS FALSE NEIGHBOUR: 'it returns false'. Refute it at one input. -/
def bitsWordsWrong : ChangeSpec := { name := "bitsWords", fn := fun _ => fun
  | [d1, d2] => { results := [.lit (.bool false)], args := [d1, d2] }
  | _ => none }
def BitsWordsWrongFalsely : Prop := bitsWordsRow.holds Try.pinned (OpenSpec.ofChange bitsWordsWrong)

/-- 'mezzotintlaw02.BitsTurns': WHATEVER THE INPUT: true; the input reads as it did. -/
def bitsTurnsSpec : ChangeSpec := { name := "bitsTurns", fn := fun _ => fun
  | [d1, d2] => { results := [.lit (.bool true)], args := [d1, d2] }
  | _ => none }
def bitsTurnsRow : OpenClaim := { program := "ytifbhbknpecnbaa", sum := "34fa3124b38d1ec30eb99b55748a4278a72e6a0a7374cbfdf64fbcea8c0601f5", func := "mezzotint/mezzotintlaw02.BitsTurns", spec := "bitsTurns", apart := false }
def BitsTurnsSaid : Prop := bitsTurnsRow.holds Try.pinned (OpenSpec.ofChange bitsTurnsSpec)

/-- ITS FALSE NEIGHBOUR: 'it returns false'. Refute it at one input. -/
def bitsTurnsWrong : ChangeSpec := { name := "bitsTurns", fn := fun _ => fun
  | [d1, d2] => { results := [.lit (.bool false)], args := [d1, d2] }
  | _ => none }
def BitsTurnsWrongFalsely : Prop := bitsTurnsRow.holds Try.pinned (OpenSpec.ofChange bitsTurnsWrong)

/- THE SECOND FORM. 'bulk': how many values and letters a reading holds, each counted each time it is reached (what is shared counts as often as it is met; a slice's spare places count too). A statement '..UptoSaid' is the law's where the arguments, and the package variables that the reading takes, are together of bulk at most 1048576: NARROWER than '..Said'. Prove '..Said' where nothing that the law and all that it calls make is longer than what came in: it says more and counts as full. Else prove '..UptoSaid'. A law counts once. -/
mutual
def uptoBulk {H : Type} : DataW H → Nat
  | .lit (.string bytes) => bytes.length + 1
  | .lit _ => 1
  | .nil => 1
  | .ptr d => uptoBulk d + 1
  | .slice elems spare => uptoBulkAll elems + uptoBulkAll spare + 1
  | .agg parts => uptoBulkAll parts + 1
  | .iface _ d => uptoBulk d + 1
  | .map entries => uptoBulkEntries entries + 1
  | .held _ => 1
def uptoBulkAll {H : Type} : List (DataW H) → Nat
  | [] => 0
  | d :: r => uptoBulk d + uptoBulkAll r
def uptoBulkEntries {H : Type} : List (Lit × DataW H) → Nat
  | [] => 0
  | x :: r => uptoBulkEntry x + uptoBulkEntries r
def uptoBulkEntry {H : Type} : Lit × DataW H → Nat
  | (.string bytes, d) => bytes.length + uptoBulk d + 1
  | (_, d) => uptoBulk d + 1
 end
def uptoSmall : (H : Type) → List (DataW H) → Bool := fun _ ds => decide (uptoBulkAll ds ≤ 1048576)
def OpenSpec.upto (s : _root_.Go.ChangeSpec) : _root_.Go.OpenSpec := { _root_.Go.OpenSpec.ofChange s with cond := some uptoSmall }

/-- 'mezzotintlaw02.BitsPeeks', WHERE WHAT IT READS IS OF BULK AT MOST 1048576: true; the input reads as it did. -/
def bitsPeeksUptoRow : OpenClaim := { program := "ytifbhbknpecnbaa", sum := "34fa3124b38d1ec30eb99b55748a4278a72e6a0a7374cbfdf64fbcea8c0601f5", func := "mezzotint/mezzotintlaw02.BitsPeeks", spec := "bitsPeeks", apart := false, narrowed := true }
def BitsPeeksUptoSaid : Prop := bitsPeeksUptoRow.holds Try.pinned (OpenSpec.upto bitsPeeksSpec)

/-- 'mezzotintlaw02.BitsReads', WHERE WHAT IT READS IS OF BULK AT MOST 1048576: true; the input reads as it did. -/
def bitsReadsUptoRow : OpenClaim := { program := "ytifbhbknpecnbaa", sum := "34fa3124b38d1ec30eb99b55748a4278a72e6a0a7374cbfdf64fbcea8c0601f5", func := "mezzotint/mezzotintlaw02.BitsReads", spec := "bitsReads", apart := false, narrowed := true }
def BitsReadsUptoSaid : Prop := bitsReadsUptoRow.holds Try.pinned (OpenSpec.upto bitsReadsSpec)

/-- 'mezzotintlaw02.BitsWrites', WHERE WHAT IT READS IS OF BULK AT MOST 1048576: true; the input reads as it did. -/
def bitsWritesUptoRow : OpenClaim := { program := "ytifbhbknpecnbaa", sum := "34fa3124b38d1ec30eb99b55748a4278a72e6a0a7374cbfdf64fbcea8c0601f5", func := "mezzotint/mezzotintlaw02.BitsWrites", spec := "bitsWrites", apart := false, narrowed := true }
def BitsWritesUptoSaid : Prop := bitsWritesUptoRow.holds Try.pinned (OpenSpec.upto bitsWritesSpec)

/-- 'mezzotintlaw02.BitsAgain', WHERE WHAT IT READS IS OF BULK AT MOST 1048576: true; the input reads as it did. -/
def bitsAgainUptoRow : OpenClaim := { program := "ytifbhbknpecnbaa", sum := "34fa3124b38d1ec30eb99b55748a4278a72e6a0a7374cbfdf64fbcea8c0601f5", func := "mezzotint/mezzotintlaw02.BitsAgain", spec := "bitsAgain", apart := false, narrowed := true }
def BitsAgainUptoSaid : Prop := bitsAgainUptoRow.holds Try.pinned (OpenSpec.upto bitsAgainSpec)

/-- 'mezzotintlaw02.BitsWords', WHERE WHAT IT READS IS OF BULK AT MOST 1048576: true; the input reads as it did. -/
def bitsWordsUptoRow : OpenClaim := { program := "ytifbhbknpecnbaa", sum := "34fa3124b38d1ec30eb99b55748a4278a72e6a0a7374cbfdf64fbcea8c0601f5", func := "mezzotint/mezzotintlaw02.BitsWords", spec := "bitsWords", apart := false, narrowed := true }
def BitsWordsUptoSaid : Prop := bitsWordsUptoRow.holds Try.pinned (OpenSpec.upto bitsWordsSpec)

/-- 'mezzotintlaw02.BitsTurns', WHERE WHAT IT READS IS OF BULK AT MOST 1048576: true; the input reads as it did. -/
def bitsTurnsUptoRow : OpenClaim := { program := "ytifbhbknpecnbaa", sum := "34fa3124b38d1ec30eb99b55748a4278a72e6a0a7374cbfdf64fbcea8c0601f5", func := "mezzotint/mezzotintlaw02.BitsTurns", spec := "bitsTurns", apart := false, narrowed := true }
def BitsTurnsUptoSaid : Prop := bitsTurnsUptoRow.holds Try.pinned (OpenSpec.upto bitsTurnsSpec)

end Rows
end Go.Proofs.Ytifbhbknpecnbaa
