/-
  No cell of these rows narrows 'for every input' (looked for: loops, veiled, ifaces, maps, wideKeys, modest, calm, conditions, laid).
  DERIVED. THE GIVEN ROWS OF THIS SEAT. 4 by the template 'for every input the law returns true; each argument reads behind the call as it read before'; 0 by the template 'total and deterministic' (their statements: YtecoghabjcnbnaaTotals.lean).
  GIVEN WITH THE SEED: the statements are not yours to turn. If you find one false, say at which input.
  Laid BY PROGRAM, IN A SANDBOX (cutbox-rows.mjs): the forced cells as the released guide's own fill.sh prints them over the translation 21fd65f9ff0902c1… (all of the seat's roots in one cut). By AI agents, Wed Nov 11 2026. No macro, syntax, notation, axiom, sorry.
-/
import Derived.Test.YtecoghabjcnbnaaChecked
import GoSem.Claim
import GoSem.ClaimJoined
import GoSem.ClaimMapViews
import Derived.JoinedTies
import Derived.KernelRfl
namespace Go.Proofs.Ytecoghabjcnbnaa
/- THE CELL 'sum', in the pinned program and in every row, IS THE sha256 OF THE DUMP (.gsa) THAT YtecoghabjcnbnaaProg.lean LOADS. Nothing in Lean hashes anything: it is a label: what it is worth is what the hold of that sum in a sandbox is worth. -/
noncomputable def Try.pinned : Pinned := { name := "ytecoghabjcnbnaa", sum := "21fd65f9ff0902c1a81223fa819a6a35e56031ea2f2829028b285bfc3a3fd523", checked := Try.checked }
namespace Rows
def none {H : Type} : Left H := { results := [], args := [] }

/-- 'dreylaw19.OrderSorts': WHATEVER THE INPUT: true; the input reads as it did. -/
def orderSortsSpec : ChangeSpec := { name := "orderSorts", fn := fun _ => fun
  | [d] => { results := [.lit (.bool true)], args := [d] }
  | _ => none }
def orderSortsRow : OpenClaim := { program := "ytecoghabjcnbnaa", sum := "21fd65f9ff0902c1a81223fa819a6a35e56031ea2f2829028b285bfc3a3fd523", func := "drey/dreylaw19.OrderSorts", spec := "orderSorts", plainKeys := false, apart := false }
def OrderSortsSaid : Prop := orderSortsRow.holds Try.pinned (OpenSpec.ofChange orderSortsSpec)

/-- ITS FALSE NEIGHBOUR: 'it returns false'. Refute it at one input. -/
def orderSortsWrong : ChangeSpec := { name := "orderSorts", fn := fun _ => fun
  | [d] => { results := [.lit (.bool false)], args := [d] }
  | _ => none }
def OrderSortsWrongFalsely : Prop := orderSortsRow.holds Try.pinned (OpenSpec.ofChange orderSortsWrong)

/-- 'dreylaw19.OrderAsks': WHATEVER THE INPUT: true; the input reads as it did. -/
def orderAsksSpec : ChangeSpec := { name := "orderAsks", fn := fun _ => fun
  | [d1, d2] => { results := [.lit (.bool true)], args := [d1, d2] }
  | _ => none }
def orderAsksRow : OpenClaim := { program := "ytecoghabjcnbnaa", sum := "21fd65f9ff0902c1a81223fa819a6a35e56031ea2f2829028b285bfc3a3fd523", func := "drey/dreylaw19.OrderAsks", spec := "orderAsks", plainKeys := false, apart := false }
def OrderAsksSaid : Prop := orderAsksRow.holds Try.pinned (OpenSpec.ofChange orderAsksSpec)

/-- ITS FALSE NEIGHBOUR: 'it returns false'. Refute it at one input. -/
def orderAsksWrong : ChangeSpec := { name := "orderAsks", fn := fun _ => fun
  | [d1, d2] => { results := [.lit (.bool false)], args := [d1, d2] }
  | _ => none }
def OrderAsksWrongFalsely : Prop := orderAsksRow.holds Try.pinned (OpenSpec.ofChange orderAsksWrong)

/-- 'dreytop.WholeSorts': WHATEVER THE INPUT: true; the input reads as it did. -/
def wholeSortsSpec : ChangeSpec := { name := "wholeSorts", fn := fun _ => fun
  | [d1, d2] => { results := [.lit (.bool true)], args := [d1, d2] }
  | _ => none }
def wholeSortsRow : OpenClaim := { program := "ytecoghabjcnbnaa", sum := "21fd65f9ff0902c1a81223fa819a6a35e56031ea2f2829028b285bfc3a3fd523", func := "drey/dreytop.WholeSorts", spec := "wholeSorts", plainKeys := false, apart := false }
def WholeSortsSaid : Prop := wholeSortsRow.holds Try.pinned (OpenSpec.ofChange wholeSortsSpec)

/-- ITS FALSE NEIGHBOUR: 'it returns false'. Refute it at one input. -/
def wholeSortsWrong : ChangeSpec := { name := "wholeSorts", fn := fun _ => fun
  | [d1, d2] => { results := [.lit (.bool false)], args := [d1, d2] }
  | _ => none }
def WholeSortsWrongFalsely : Prop := wholeSortsRow.holds Try.pinned (OpenSpec.ofChange wholeSortsWrong)

/-- 'dreylaw19.OrderPlain': WHATEVER THE INPUT: true; the input reads as it did. -/
def orderPlainSpec : ChangeSpec := { name := "orderPlain", fn := fun _ => fun
  | [d] => { results := [.lit (.bool true)], args := [d] }
  | _ => none }
def orderPlainRow : OpenClaim := { program := "ytecoghabjcnbnaa", sum := "21fd65f9ff0902c1a81223fa819a6a35e56031ea2f2829028b285bfc3a3fd523", func := "drey/dreylaw19.OrderPlain", spec := "orderPlain", plainKeys := false, apart := false }
def OrderPlainSaid : Prop := orderPlainRow.holds Try.pinned (OpenSpec.ofChange orderPlainSpec)

/-- ITS FALSE NEIGHBOUR: 'it returns false'. Refute it at one input. -/
def orderPlainWrong : ChangeSpec := { name := "orderPlain", fn := fun _ => fun
  | [d] => { results := [.lit (.bool false)], args := [d] }
  | _ => none }
def OrderPlainWrongFalsely : Prop := orderPlainRow.holds Try.pinned (OpenSpec.ofChange orderPlainWrong)

/- THE SECOND FORM. 'bulk': how many values and letters a reading holds, each counted each time it is reached (what is shared counts as often as it is met; a slice's spare places count too). A statement '..UptoSaid' is the law's where the arguments, and the package variables that the reading takes, are together of bulk at most 1048576: NARROWER than '..Said'. Prove '..Said' where nothing that the law and all that it calls make is longer than what came in: it says more and counts as full. Else prove '..UptoSaid'. A law counts once. -/
mutual
def uptoBulk {H : Type} : DataW H → Nat
  | .lit (.string bytes) => bytes.length + 1
  | .lit _ => 1
  | .nil => 1
  | .ptr d => uptoBulk d + 1
  | .slice elems spare => uptoBulkAll elems + uptoBulkAll spare + 1
  | .agg parts => uptoBulkAll parts + 1
  | .iface _ d => uptoBulk d + 1
  | .map entries => uptoBulkEntries entries + 1
  | .held _ => 1
def uptoBulkAll {H : Type} : List (DataW H) → Nat
  | [] => 0
  | d :: r => uptoBulk d + uptoBulkAll r
def uptoBulkEntries {H : Type} : List (Lit × DataW H) → Nat
  | [] => 0
  | x :: r => uptoBulkEntry x + uptoBulkEntries r
def uptoBulkEntry {H : Type} : Lit × DataW H → Nat
  | (.string bytes, d) => bytes.length + uptoBulk d + 1
  | (_, d) => uptoBulk d + 1
 end
def uptoSmall : (H : Type) → List (DataW H) → Bool := fun _ ds => decide (uptoBulkAll ds ≤ 1048576)
def OpenSpec.upto (s : _root_.Go.ChangeSpec) : _root_.Go.OpenSpec := { _root_.Go.OpenSpec.ofChange s with cond := some uptoSmall }

/-- 'dreylaw19.OrderSorts', WHERE WHAT IT READS IS OF BULK AT MOST 1048576: true; the input reads as it did. -/
def orderSortsUptoRow : OpenClaim := { program := "ytecoghabjcnbnaa", sum := "21fd65f9ff0902c1a81223fa819a6a35e56031ea2f2829028b285bfc3a3fd523", func := "drey/dreylaw19.OrderSorts", spec := "orderSorts", plainKeys := false, apart := false, narrowed := true }
def OrderSortsUptoSaid : Prop := orderSortsUptoRow.holds Try.pinned (OpenSpec.upto orderSortsSpec)

/-- 'dreylaw19.OrderAsks', WHERE WHAT IT READS IS OF BULK AT MOST 1048576: true; the input reads as it did. -/
def orderAsksUptoRow : OpenClaim := { program := "ytecoghabjcnbnaa", sum := "21fd65f9ff0902c1a81223fa819a6a35e56031ea2f2829028b285bfc3a3fd523", func := "drey/dreylaw19.OrderAsks", spec := "orderAsks", plainKeys := false, apart := false, narrowed := true }
def OrderAsksUptoSaid : Prop := orderAsksUptoRow.holds Try.pinned (OpenSpec.upto orderAsksSpec)

/-- 'dreytop.WholeSorts', WHERE WHAT IT READS IS OF BULK AT MOST 1048576: true; the input reads as it did. -/
def wholeSortsUptoRow : OpenClaim := { program := "ytecoghabjcnbnaa", sum := "21fd65f9ff0902c1a81223fa819a6a35e56031ea2f2829028b285bfc3a3fd523", func := "drey/dreytop.WholeSorts", spec := "wholeSorts", plainKeys := false, apart := false, narrowed := true }
def WholeSortsUptoSaid : Prop := wholeSortsUptoRow.holds Try.pinned (OpenSpec.upto wholeSortsSpec)

/-- 'dreylaw19.OrderPlain', WHERE WHAT IT READS IS OF BULK AT MOST 1048576: true; the input reads as it did. -/
def orderPlainUptoRow : OpenClaim := { program := "ytecoghabjcnbnaa", sum := "21fd65f9ff0902c1a81223fa819a6a35e56031ea2f2829028b285bfc3a3fd523", func := "drey/dreylaw19.OrderPlain", spec := "orderPlain", plainKeys := false, apart := false, narrowed := true }
def OrderPlainUptoSaid : Prop := orderPlainUptoRow.holds Try.pinned (OpenSpec.upto orderPlainSpec)

end Rows
end Go.Proofs.Ytecoghabjcnbnaa
