/-
  No cell of these rows narrows 'for every input' (looked for: loops, veiled, ifaces, maps, wideKeys, modest, calm, conditions, laid).
  DERIVED. THE GIVEN ROWS OF THIS SEAT. 10 by the template 'for every input the law returns true; each argument reads behind the call as it read before'; 0 by the template 'total and deterministic' (their statements: YtpcamgjfikipgaaTotals.lean).
  GIVEN WITH THE SEED: the statements are not yours to turn. If you find one false, say at which input.
  Laid BY PROGRAM, IN A SANDBOX (cutbox-rows.mjs): the forced cells as the released guide's own fill.sh prints them over the translation 245d2d756a1d6001… (all of the seat's roots in one cut). By AI agents, Wed Nov 11 2026. No macro, syntax, notation, axiom, sorry.
-/
import Derived.Test.YtpcamgjfikipgaaChecked
import GoSem.Claim
import GoSem.ClaimJoined
import GoSem.ClaimMapViews
import Derived.JoinedTies
import Derived.KernelRfl
namespace Go.Proofs.Ytpcamgjfikipgaa
/- THE CELL 'sum', in the pinned program and in every row, IS THE sha256 OF THE DUMP (.gsa) THAT YtpcamgjfikipgaaProg.lean LOADS. Nothing in Lean hashes anything: it is a label: what it is worth is what the hold of that sum in a sandbox is worth. -/
noncomputable def Try.pinned : Pinned := { name := "ytpcamgjfikipgaa", sum := "245d2d756a1d6001715492e942a0602f03e12679a8be16d58b7add25a3e57abd", checked := Try.checked }
namespace Rows
def none {H : Type} : Left H := { results := [], args := [] }

/-- 'dreylaw20.FrameArgs': WHATEVER THE INPUT: true; the input reads as it did. -/
def frameArgsSpec : ChangeSpec := { name := "frameArgs", fn := fun _ => fun
  | [d1, d2, d3] => { results := [.lit (.bool true)], args := [d1, d2, d3] }
  | _ => none }
def frameArgsRow : OpenClaim := { program := "ytpcamgjfikipgaa", sum := "245d2d756a1d6001715492e942a0602f03e12679a8be16d58b7add25a3e57abd", func := "drey/dreylaw20.FrameArgs", spec := "frameArgs", apart := false }
def FrameArgsSaid : Prop := frameArgsRow.holds Try.pinned (OpenSpec.ofChange frameArgsSpec)

/-- ITS FALSE NEIGHBOUR: 'it returns false'. Refute it at one input. -/
def frameArgsWrong : ChangeSpec := { name := "frameArgs", fn := fun _ => fun
  | [d1, d2, d3] => { results := [.lit (.bool false)], args := [d1, d2, d3] }
  | _ => none }
def FrameArgsWrongFalsely : Prop := frameArgsRow.holds Try.pinned (OpenSpec.ofChange frameArgsWrong)

/-- 'dreylaw20.FrameNew': WHATEVER THE INPUT: true; the input reads as it did. -/
def frameNewSpec : ChangeSpec := { name := "frameNew", fn := fun _ => fun
  | [d1, d2, d3] => { results := [.lit (.bool true)], args := [d1, d2, d3] }
  | _ => none }
def frameNewRow : OpenClaim := { program := "ytpcamgjfikipgaa", sum := "245d2d756a1d6001715492e942a0602f03e12679a8be16d58b7add25a3e57abd", func := "drey/dreylaw20.FrameNew", spec := "frameNew", apart := false }
def FrameNewSaid : Prop := frameNewRow.holds Try.pinned (OpenSpec.ofChange frameNewSpec)

/-- ITS FALSE NEIGHBOUR: 'it returns false'. Refute it at one input. -/
def frameNewWrong : ChangeSpec := { name := "frameNew", fn := fun _ => fun
  | [d1, d2, d3] => { results := [.lit (.bool false)], args := [d1, d2, d3] }
  | _ => none }
def FrameNewWrongFalsely : Prop := frameNewRow.holds Try.pinned (OpenSpec.ofChange frameNewWrong)

/-- 'dreylaw20.FrameStacks': WHATEVER THE INPUT: true; the input reads as it did. -/
def frameStacksSpec : ChangeSpec := { name := "frameStacks", fn := fun _ => fun
  | [d1, d2] => { results := [.lit (.bool true)], args := [d1, d2] }
  | _ => none }
def frameStacksRow : OpenClaim := { program := "ytpcamgjfikipgaa", sum := "245d2d756a1d6001715492e942a0602f03e12679a8be16d58b7add25a3e57abd", func := "drey/dreylaw20.FrameStacks", spec := "frameStacks", apart := false }
def FrameStacksSaid : Prop := frameStacksRow.holds Try.pinned (OpenSpec.ofChange frameStacksSpec)

/-- ITS FALSE NEIGHBOUR: 'it returns false'. Refute it at one input. -/
def frameStacksWrong : ChangeSpec := { name := "frameStacks", fn := fun _ => fun
  | [d1, d2] => { results := [.lit (.bool false)], args := [d1, d2] }
  | _ => none }
def FrameStacksWrongFalsely : Prop := frameStacksRow.holds Try.pinned (OpenSpec.ofChange frameStacksWrong)

/-- 'dreylaw21.UnwindFinds': WHATEVER THE INPUT: true; the input reads as it did. -/
def unwindFindsSpec : ChangeSpec := { name := "unwindFinds", fn := fun _ => fun
  | [d1, d2, d3] => { results := [.lit (.bool true)], args := [d1, d2, d3] }
  | _ => none }
def unwindFindsRow : OpenClaim := { program := "ytpcamgjfikipgaa", sum := "245d2d756a1d6001715492e942a0602f03e12679a8be16d58b7add25a3e57abd", func := "drey/dreylaw21.UnwindFinds", spec := "unwindFinds", unfollowed := true, recurses := true, apart := false }
def UnwindFindsSaid : Prop := unwindFindsRow.holds Try.pinned (OpenSpec.ofChange unwindFindsSpec)

/-- ITS FALSE NEIGHBOUR: 'it returns false'. Refute it at one input. -/
def unwindFindsWrong : ChangeSpec := { name := "unwindFinds", fn := fun _ => fun
  | [d1, d2, d3] => { results := [.lit (.bool false)], args := [d1, d2, d3] }
  | _ => none }
def UnwindFindsWrongFalsely : Prop := unwindFindsRow.holds Try.pinned (OpenSpec.ofChange unwindFindsWrong)

/-- 'dreytop.WholeDepth': WHATEVER THE INPUT: true; the input reads as it did. -/
def wholeDepthSpec : ChangeSpec := { name := "wholeDepth", fn := fun _ => fun
  | [d1, d2] => { results := [.lit (.bool true)], args := [d1, d2] }
  | _ => none }
def wholeDepthRow : OpenClaim := { program := "ytpcamgjfikipgaa", sum := "245d2d756a1d6001715492e942a0602f03e12679a8be16d58b7add25a3e57abd", func := "drey/dreytop.WholeDepth", spec := "wholeDepth", apart := false }
def WholeDepthSaid : Prop := wholeDepthRow.holds Try.pinned (OpenSpec.ofChange wholeDepthSpec)

/-- ITS FALSE NEIGHBOUR: 'it returns false'. Refute it at one input. -/
def wholeDepthWrong : ChangeSpec := { name := "wholeDepth", fn := fun _ => fun
  | [d1, d2] => { results := [.lit (.bool false)], args := [d1, d2] }
  | _ => none }
def WholeDepthWrongFalsely : Prop := wholeDepthRow.holds Try.pinned (OpenSpec.ofChange wholeDepthWrong)

/-- 'dreylaw25.GenNames': WHATEVER THE INPUT: true; the input reads as it did. -/
def genNamesSpec : ChangeSpec := { name := "genNames", fn := fun _ => fun
  | [d] => { results := [.lit (.bool true)], args := [d] }
  | _ => none }
def genNamesRow : OpenClaim := { program := "ytpcamgjfikipgaa", sum := "245d2d756a1d6001715492e942a0602f03e12679a8be16d58b7add25a3e57abd", func := "drey/dreylaw25.GenNames", spec := "genNames", apart := false }
def GenNamesSaid : Prop := genNamesRow.holds Try.pinned (OpenSpec.ofChange genNamesSpec)

/-- ITS FALSE NEIGHBOUR: 'it returns false'. Refute it at one input. -/
def genNamesWrong : ChangeSpec := { name := "genNames", fn := fun _ => fun
  | [d] => { results := [.lit (.bool false)], args := [d] }
  | _ => none }
def GenNamesWrongFalsely : Prop := genNamesRow.holds Try.pinned (OpenSpec.ofChange genNamesWrong)

/-- 'dreylaw25.GenPlays': WHATEVER THE INPUT: true; the input reads as it did. -/
def genPlaysSpec : ChangeSpec := { name := "genPlays", fn := fun _ => fun
  | [d] => { results := [.lit (.bool true)], args := [d] }
  | _ => none }
def genPlaysRow : OpenClaim := { program := "ytpcamgjfikipgaa", sum := "245d2d756a1d6001715492e942a0602f03e12679a8be16d58b7add25a3e57abd", func := "drey/dreylaw25.GenPlays", spec := "genPlays", apart := false }
def GenPlaysSaid : Prop := genPlaysRow.holds Try.pinned (OpenSpec.ofChange genPlaysSpec)

/-- ITS FALSE NEIGHBOUR: 'it returns false'. Refute it at one input. -/
def genPlaysWrong : ChangeSpec := { name := "genPlays", fn := fun _ => fun
  | [d] => { results := [.lit (.bool false)], args := [d] }
  | _ => none }
def GenPlaysWrongFalsely : Prop := genPlaysRow.holds Try.pinned (OpenSpec.ofChange genPlaysWrong)

/-- 'dreytop.WholeWaits': WHATEVER THE INPUT: true; the input reads as it did. -/
def wholeWaitsSpec : ChangeSpec := { name := "wholeWaits", fn := fun _ => fun
  | [d1, d2, d3] => { results := [.lit (.bool true)], args := [d1, d2, d3] }
  | _ => none }
def wholeWaitsRow : OpenClaim := { program := "ytpcamgjfikipgaa", sum := "245d2d756a1d6001715492e942a0602f03e12679a8be16d58b7add25a3e57abd", func := "drey/dreytop.WholeWaits", spec := "wholeWaits", apart := false }
def WholeWaitsSaid : Prop := wholeWaitsRow.holds Try.pinned (OpenSpec.ofChange wholeWaitsSpec)

/-- ITS FALSE NEIGHBOUR: 'it returns false'. Refute it at one input. -/
def wholeWaitsWrong : ChangeSpec := { name := "wholeWaits", fn := fun _ => fun
  | [d1, d2, d3] => { results := [.lit (.bool false)], args := [d1, d2, d3] }
  | _ => none }
def WholeWaitsWrongFalsely : Prop := wholeWaitsRow.holds Try.pinned (OpenSpec.ofChange wholeWaitsWrong)

/-- 'dreylaw26.ThreadPlays': WHATEVER THE INPUT: true; the input reads as it did. -/
def threadPlaysSpec : ChangeSpec := { name := "threadPlays", fn := fun _ => fun
  | [d] => { results := [.lit (.bool true)], args := [d] }
  | _ => none }
def threadPlaysRow : OpenClaim := { program := "ytpcamgjfikipgaa", sum := "245d2d756a1d6001715492e942a0602f03e12679a8be16d58b7add25a3e57abd", func := "drey/dreylaw26.ThreadPlays", spec := "threadPlays", apart := false }
def ThreadPlaysSaid : Prop := threadPlaysRow.holds Try.pinned (OpenSpec.ofChange threadPlaysSpec)

/-- ITS FALSE NEIGHBOUR: 'it returns false'. Refute it at one input. -/
def threadPlaysWrong : ChangeSpec := { name := "threadPlays", fn := fun _ => fun
  | [d] => { results := [.lit (.bool false)], args := [d] }
  | _ => none }
def ThreadPlaysWrongFalsely : Prop := threadPlaysRow.holds Try.pinned (OpenSpec.ofChange threadPlaysWrong)

/-- 'dreylaw26.ThreadNames': WHATEVER THE INPUT: true; the input reads as it did. -/
def threadNamesSpec : ChangeSpec := { name := "threadNames", fn := fun _ => fun
  | [d] => { results := [.lit (.bool true)], args := [d] }
  | _ => none }
def threadNamesRow : OpenClaim := { program := "ytpcamgjfikipgaa", sum := "245d2d756a1d6001715492e942a0602f03e12679a8be16d58b7add25a3e57abd", func := "drey/dreylaw26.ThreadNames", spec := "threadNames", apart := false }
def ThreadNamesSaid : Prop := threadNamesRow.holds Try.pinned (OpenSpec.ofChange threadNamesSpec)

/-- ITS FALSE NEIGHBOUR: 'it returns false'. Refute it at one input. -/
def threadNamesWrong : ChangeSpec := { name := "threadNames", fn := fun _ => fun
  | [d] => { results := [.lit (.bool false)], args := [d] }
  | _ => none }
def ThreadNamesWrongFalsely : Prop := threadNamesRow.holds Try.pinned (OpenSpec.ofChange threadNamesWrong)

/- THE SECOND FORM. 'bulk': how many values and letters a reading holds, each counted each time it is reached (what is shared counts as often as it is met; a slice's spare places count too). A statement '..UptoSaid' is the law's where the arguments, and the package variables that the reading takes, are together of bulk at most 1048576: NARROWER than '..Said'. Prove '..Said' where nothing that the law and all that it calls make is longer than what came in: it says more and counts as full. Else prove '..UptoSaid'. A law counts once. -/
mutual
def uptoBulk {H : Type} : DataW H → Nat
  | .lit (.string bytes) => bytes.length + 1
  | .lit _ => 1
  | .nil => 1
  | .ptr d => uptoBulk d + 1
  | .slice elems spare => uptoBulkAll elems + uptoBulkAll spare + 1
  | .agg parts => uptoBulkAll parts + 1
  | .iface _ d => uptoBulk d + 1
  | .map entries => uptoBulkEntries entries + 1
  | .held _ => 1
def uptoBulkAll {H : Type} : List (DataW H) → Nat
  | [] => 0
  | d :: r => uptoBulk d + uptoBulkAll r
def uptoBulkEntries {H : Type} : List (Lit × DataW H) → Nat
  | [] => 0
  | x :: r => uptoBulkEntry x + uptoBulkEntries r
def uptoBulkEntry {H : Type} : Lit × DataW H → Nat
  | (.string bytes, d) => bytes.length + uptoBulk d + 1
  | (_, d) => uptoBulk d + 1
 end
def uptoSmall : (H : Type) → List (DataW H) → Bool := fun _ ds => decide (uptoBulkAll ds ≤ 1048576)
def OpenSpec.upto (s : _root_.Go.ChangeSpec) : _root_.Go.OpenSpec := { _root_.Go.OpenSpec.ofChange s with cond := some uptoSmall }

/-- 'dreylaw20.FrameArgs', WHERE WHAT IT READS IS OF BULK AT MOST 1048576: true; the input reads as it did. -/
def frameArgsUptoRow : OpenClaim := { program := "ytpcamgjfikipgaa", sum := "245d2d756a1d6001715492e942a0602f03e12679a8be16d58b7add25a3e57abd", func := "drey/dreylaw20.FrameArgs", spec := "frameArgs", apart := false, narrowed := true }
def FrameArgsUptoSaid : Prop := frameArgsUptoRow.holds Try.pinned (OpenSpec.upto frameArgsSpec)

/-- 'dreylaw20.FrameNew', WHERE WHAT IT READS IS OF BULK AT MOST 1048576: true; the input reads as it did. -/
def frameNewUptoRow : OpenClaim := { program := "ytpcamgjfikipgaa", sum := "245d2d756a1d6001715492e942a0602f03e12679a8be16d58b7add25a3e57abd", func := "drey/dreylaw20.FrameNew", spec := "frameNew", apart := false, narrowed := true }
def FrameNewUptoSaid : Prop := frameNewUptoRow.holds Try.pinned (OpenSpec.upto frameNewSpec)

/-- 'dreylaw20.FrameStacks', WHERE WHAT IT READS IS OF BULK AT MOST 1048576: true; the input reads as it did. -/
def frameStacksUptoRow : OpenClaim := { program := "ytpcamgjfikipgaa", sum := "245d2d756a1d6001715492e942a0602f03e12679a8be16d58b7add25a3e57abd", func := "drey/dreylaw20.FrameStacks", spec := "frameStacks", apart := false, narrowed := true }
def FrameStacksUptoSaid : Prop := frameStacksUptoRow.holds Try.pinned (OpenSpec.upto frameStacksSpec)

/-- 'dreylaw21.UnwindFinds', WHERE WHAT IT READS IS OF BULK AT MOST 1048576: true; the input reads as it did. -/
def unwindFindsUptoRow : OpenClaim := { program := "ytpcamgjfikipgaa", sum := "245d2d756a1d6001715492e942a0602f03e12679a8be16d58b7add25a3e57abd", func := "drey/dreylaw21.UnwindFinds", spec := "unwindFinds", unfollowed := true, recurses := true, apart := false, narrowed := true }
def UnwindFindsUptoSaid : Prop := unwindFindsUptoRow.holds Try.pinned (OpenSpec.upto unwindFindsSpec)

/-- 'dreytop.WholeDepth', WHERE WHAT IT READS IS OF BULK AT MOST 1048576: true; the input reads as it did. -/
def wholeDepthUptoRow : OpenClaim := { program := "ytpcamgjfikipgaa", sum := "245d2d756a1d6001715492e942a0602f03e12679a8be16d58b7add25a3e57abd", func := "drey/dreytop.WholeDepth", spec := "wholeDepth", apart := false, narrowed := true }
def WholeDepthUptoSaid : Prop := wholeDepthUptoRow.holds Try.pinned (OpenSpec.upto wholeDepthSpec)

/-- 'dreylaw25.GenNames', WHERE WHAT IT READS IS OF BULK AT MOST 1048576: true; the input reads as it did. -/
def genNamesUptoRow : OpenClaim := { program := "ytpcamgjfikipgaa", sum := "245d2d756a1d6001715492e942a0602f03e12679a8be16d58b7add25a3e57abd", func := "drey/dreylaw25.GenNames", spec := "genNames", apart := false, narrowed := true }
def GenNamesUptoSaid : Prop := genNamesUptoRow.holds Try.pinned (OpenSpec.upto genNamesSpec)

/-- 'dreylaw25.GenPlays', WHERE WHAT IT READS IS OF BULK AT MOST 1048576: true; the input reads as it did. -/
def genPlaysUptoRow : OpenClaim := { program := "ytpcamgjfikipgaa", sum := "245d2d756a1d6001715492e942a0602f03e12679a8be16d58b7add25a3e57abd", func := "drey/dreylaw25.GenPlays", spec := "genPlays", apart := false, narrowed := true }
def GenPlaysUptoSaid : Prop := genPlaysUptoRow.holds Try.pinned (OpenSpec.upto genPlaysSpec)

/-- 'dreytop.WholeWaits', WHERE WHAT IT READS IS OF BULK AT MOST 1048576: true; the input reads as it did. -/
def wholeWaitsUptoRow : OpenClaim := { program := "ytpcamgjfikipgaa", sum := "245d2d756a1d6001715492e942a0602f03e12679a8be16d58b7add25a3e57abd", func := "drey/dreytop.WholeWaits", spec := "wholeWaits", apart := false, narrowed := true }
def WholeWaitsUptoSaid : Prop := wholeWaitsUptoRow.holds Try.pinned (OpenSpec.upto wholeWaitsSpec)

/-- 'dreylaw26.ThreadPlays', WHERE WHAT IT READS IS OF BULK AT MOST 1048576: true; the input reads as it did. -/
def threadPlaysUptoRow : OpenClaim := { program := "ytpcamgjfikipgaa", sum := "245d2d756a1d6001715492e942a0602f03e12679a8be16d58b7add25a3e57abd", func := "drey/dreylaw26.ThreadPlays", spec := "threadPlays", apart := false, narrowed := true }
def ThreadPlaysUptoSaid : Prop := threadPlaysUptoRow.holds Try.pinned (OpenSpec.upto threadPlaysSpec)

/-- 'dreylaw26.ThreadNames', WHERE WHAT IT READS IS OF BULK AT MOST 1048576: true; the input reads as it did. -/
def threadNamesUptoRow : OpenClaim := { program := "ytpcamgjfikipgaa", sum := "245d2d756a1d6001715492e942a0602f03e12679a8be16d58b7add25a3e57abd", func := "drey/dreylaw26.ThreadNames", spec := "threadNames", apart := false, narrowed := true }
def ThreadNamesUptoSaid : Prop := threadNamesUptoRow.holds Try.pinned (OpenSpec.upto threadNamesSpec)

end Rows
end Go.Proofs.Ytpcamgjfikipgaa
