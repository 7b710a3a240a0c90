/-
  No cell of these rows narrows 'for every input' (looked for: loops, veiled, ifaces, maps, wideKeys, modest, calm, conditions, laid).
  DERIVED. THE GIVEN ROWS OF THIS SEAT. 9 by the template 'for every input the law returns true; each argument reads behind the call as it read before'; 0 by the template 'total and deterministic' (their statements: YtcjmoobdoinbkaaTotals.lean).
  GIVEN WITH THE SEED: the statements are not yours to turn. If you find one false, say at which input.
  Laid BY PROGRAM, IN A SANDBOX (cutbox-rows.mjs): the forced cells as the released guide's own fill.sh prints them over the translation bd75a54a4161444b… (all of the seat's roots in one cut). By AI agents, Wed Nov 11 2026. No macro, syntax, notation, axiom, sorry.
-/
import Derived.Test.YtcjmoobdoinbkaaChecked
import GoSem.Claim
import GoSem.ClaimJoined
import GoSem.ClaimMapViews
import Derived.JoinedTies
import Derived.KernelRfl
namespace Go.Proofs.Ytcjmoobdoinbkaa
/- THE CELL 'sum', in the pinned program and in every row, IS THE sha256 OF THE DUMP (.gsa) THAT YtcjmoobdoinbkaaProg.lean LOADS. Nothing in Lean hashes anything: it is a label: what it is worth is what the hold of that sum in a sandbox is worth. -/
noncomputable def Try.pinned : Pinned := { name := "ytcjmoobdoinbkaa", sum := "bd75a54a4161444bc61bc84043064b9e67773adcdf6a624238f7de4038023d98", checked := Try.checked }
namespace Rows
def none {H : Type} : Left H := { results := [], args := [] }

/-- 'dreylaw01.NumTexts': WHATEVER THE INPUT: true; the input reads as it did. -/
def numTextsSpec : ChangeSpec := { name := "numTexts", fn := fun _ => fun
  | [d1, d2] => { results := [.lit (.bool true)], args := [d1, d2] }
  | _ => none }
def numTextsRow : OpenClaim := { program := "ytcjmoobdoinbkaa", sum := "bd75a54a4161444bc61bc84043064b9e67773adcdf6a624238f7de4038023d98", func := "drey/dreylaw01.NumTexts", spec := "numTexts", inPlace := ["internal/bytealg.IndexByteString", "math/bits.Add64"], apart := false }
def NumTextsSaid : Prop := numTextsRow.holds Try.pinned (OpenSpec.ofChange numTextsSpec)

/-- ITS FALSE NEIGHBOUR: 'it returns false'. Refute it at one input. -/
def numTextsWrong : ChangeSpec := { name := "numTexts", fn := fun _ => fun
  | [d1, d2] => { results := [.lit (.bool false)], args := [d1, d2] }
  | _ => none }
def NumTextsWrongFalsely : Prop := numTextsRow.holds Try.pinned (OpenSpec.ofChange numTextsWrong)

/-- 'dreylaw01.NumParses': WHATEVER THE INPUT: true; the input reads as it did. -/
def numParsesSpec : ChangeSpec := { name := "numParses", fn := fun _ => fun
  | [d1, d2] => { results := [.lit (.bool true)], args := [d1, d2] }
  | _ => none }
def numParsesRow : OpenClaim := { program := "ytcjmoobdoinbkaa", sum := "bd75a54a4161444bc61bc84043064b9e67773adcdf6a624238f7de4038023d98", func := "drey/dreylaw01.NumParses", spec := "numParses", inPlace := ["internal/bytealg.IndexByteString", "math/bits.Add64"], apart := false }
def NumParsesSaid : Prop := numParsesRow.holds Try.pinned (OpenSpec.ofChange numParsesSpec)

/-- ITS FALSE NEIGHBOUR: 'it returns false'. Refute it at one input. -/
def numParsesWrong : ChangeSpec := { name := "numParses", fn := fun _ => fun
  | [d1, d2] => { results := [.lit (.bool false)], args := [d1, d2] }
  | _ => none }
def NumParsesWrongFalsely : Prop := numParsesRow.holds Try.pinned (OpenSpec.ofChange numParsesWrong)

/-- 'dreylaw01.NumLeads': WHATEVER THE INPUT: true; the input reads as it did. -/
def numLeadsSpec : ChangeSpec := { name := "numLeads", fn := fun _ => fun
  | [d] => { results := [.lit (.bool true)], args := [d] }
  | _ => none }
def numLeadsRow : OpenClaim := { program := "ytcjmoobdoinbkaa", sum := "bd75a54a4161444bc61bc84043064b9e67773adcdf6a624238f7de4038023d98", func := "drey/dreylaw01.NumLeads", spec := "numLeads", inPlace := ["internal/bytealg.IndexByteString", "math/bits.Add64"], apart := false }
def NumLeadsSaid : Prop := numLeadsRow.holds Try.pinned (OpenSpec.ofChange numLeadsSpec)

/-- ITS FALSE NEIGHBOUR: 'it returns false'. Refute it at one input. -/
def numLeadsWrong : ChangeSpec := { name := "numLeads", fn := fun _ => fun
  | [d] => { results := [.lit (.bool false)], args := [d] }
  | _ => none }
def NumLeadsWrongFalsely : Prop := numLeadsRow.holds Try.pinned (OpenSpec.ofChange numLeadsWrong)

/-- 'dreylaw01.NumQuotients': WHATEVER THE INPUT: true; the input reads as it did. -/
def numQuotientsSpec : ChangeSpec := { name := "numQuotients", fn := fun _ => fun
  | [d1, d2] => { results := [.lit (.bool true)], args := [d1, d2] }
  | _ => none }
def numQuotientsRow : OpenClaim := { program := "ytcjmoobdoinbkaa", sum := "bd75a54a4161444bc61bc84043064b9e67773adcdf6a624238f7de4038023d98", func := "drey/dreylaw01.NumQuotients", spec := "numQuotients", inPlace := ["internal/bytealg.IndexByteString", "math/bits.Add64"], apart := false }
def NumQuotientsSaid : Prop := numQuotientsRow.holds Try.pinned (OpenSpec.ofChange numQuotientsSpec)

/-- ITS FALSE NEIGHBOUR: 'it returns false'. Refute it at one input. -/
def numQuotientsWrong : ChangeSpec := { name := "numQuotients", fn := fun _ => fun
  | [d1, d2] => { results := [.lit (.bool false)], args := [d1, d2] }
  | _ => none }
def NumQuotientsWrongFalsely : Prop := numQuotientsRow.holds Try.pinned (OpenSpec.ofChange numQuotientsWrong)

/-- 'dreylaw01.NumRounds': WHATEVER THE INPUT: true; the input reads as it did. -/
def numRoundsSpec : ChangeSpec := { name := "numRounds", fn := fun _ => fun
  | [d1, d2] => { results := [.lit (.bool true)], args := [d1, d2] }
  | _ => none }
def numRoundsRow : OpenClaim := { program := "ytcjmoobdoinbkaa", sum := "bd75a54a4161444bc61bc84043064b9e67773adcdf6a624238f7de4038023d98", func := "drey/dreylaw01.NumRounds", spec := "numRounds", inPlace := ["internal/bytealg.IndexByteString", "math/bits.Add64"], apart := false }
def NumRoundsSaid : Prop := numRoundsRow.holds Try.pinned (OpenSpec.ofChange numRoundsSpec)

/-- ITS FALSE NEIGHBOUR: 'it returns false'. Refute it at one input. -/
def numRoundsWrong : ChangeSpec := { name := "numRounds", fn := fun _ => fun
  | [d1, d2] => { results := [.lit (.bool false)], args := [d1, d2] }
  | _ => none }
def NumRoundsWrongFalsely : Prop := numRoundsRow.holds Try.pinned (OpenSpec.ofChange numRoundsWrong)

/-- 'dreylaw01.NumBits': WHATEVER THE INPUT: true; the input reads as it did. -/
def numBitsSpec : ChangeSpec := { name := "numBits", fn := fun _ => fun
  | [d1, d2] => { results := [.lit (.bool true)], args := [d1, d2] }
  | _ => none }
def numBitsRow : OpenClaim := { program := "ytcjmoobdoinbkaa", sum := "bd75a54a4161444bc61bc84043064b9e67773adcdf6a624238f7de4038023d98", func := "drey/dreylaw01.NumBits", spec := "numBits", inPlace := ["internal/bytealg.IndexByteString", "math/bits.Add64"], apart := false }
def NumBitsSaid : Prop := numBitsRow.holds Try.pinned (OpenSpec.ofChange numBitsSpec)

/-- ITS FALSE NEIGHBOUR: 'it returns false'. Refute it at one input. -/
def numBitsWrong : ChangeSpec := { name := "numBits", fn := fun _ => fun
  | [d1, d2] => { results := [.lit (.bool false)], args := [d1, d2] }
  | _ => none }
def NumBitsWrongFalsely : Prop := numBitsRow.holds Try.pinned (OpenSpec.ofChange numBitsWrong)

/-- 'dreylaw01.NumOrders': WHATEVER THE INPUT: true; the input reads as it did. -/
def numOrdersSpec : ChangeSpec := { name := "numOrders", fn := fun _ => fun
  | [d1, d2] => { results := [.lit (.bool true)], args := [d1, d2] }
  | _ => none }
def numOrdersRow : OpenClaim := { program := "ytcjmoobdoinbkaa", sum := "bd75a54a4161444bc61bc84043064b9e67773adcdf6a624238f7de4038023d98", func := "drey/dreylaw01.NumOrders", spec := "numOrders", inPlace := ["internal/bytealg.IndexByteString", "math/bits.Add64"], apart := false }
def NumOrdersSaid : Prop := numOrdersRow.holds Try.pinned (OpenSpec.ofChange numOrdersSpec)

/-- ITS FALSE NEIGHBOUR: 'it returns false'. Refute it at one input. -/
def numOrdersWrong : ChangeSpec := { name := "numOrders", fn := fun _ => fun
  | [d1, d2] => { results := [.lit (.bool false)], args := [d1, d2] }
  | _ => none }
def NumOrdersWrongFalsely : Prop := numOrdersRow.holds Try.pinned (OpenSpec.ofChange numOrdersWrong)

/-- 'dreytop.WholeDigits': WHATEVER THE INPUT: true; the input reads as it did. -/
def wholeDigitsSpec : ChangeSpec := { name := "wholeDigits", fn := fun _ => fun
  | [d1, d2] => { results := [.lit (.bool true)], args := [d1, d2] }
  | _ => none }
def wholeDigitsRow : OpenClaim := { program := "ytcjmoobdoinbkaa", sum := "bd75a54a4161444bc61bc84043064b9e67773adcdf6a624238f7de4038023d98", func := "drey/dreytop.WholeDigits", spec := "wholeDigits", inPlace := ["internal/bytealg.IndexByteString", "math/bits.Add64"], apart := false }
def WholeDigitsSaid : Prop := wholeDigitsRow.holds Try.pinned (OpenSpec.ofChange wholeDigitsSpec)

/-- ITS FALSE NEIGHBOUR: 'it returns false'. Refute it at one input. -/
def wholeDigitsWrong : ChangeSpec := { name := "wholeDigits", fn := fun _ => fun
  | [d1, d2] => { results := [.lit (.bool false)], args := [d1, d2] }
  | _ => none }
def WholeDigitsWrongFalsely : Prop := wholeDigitsRow.holds Try.pinned (OpenSpec.ofChange wholeDigitsWrong)

/-- 'dreytop.WholeValues': WHATEVER THE INPUT: true; the input reads as it did. -/
def wholeValuesSpec : ChangeSpec := { name := "wholeValues", fn := fun _ => fun
  | [d1, d2] => { results := [.lit (.bool true)], args := [d1, d2] }
  | _ => none }
def wholeValuesRow : OpenClaim := { program := "ytcjmoobdoinbkaa", sum := "bd75a54a4161444bc61bc84043064b9e67773adcdf6a624238f7de4038023d98", func := "drey/dreytop.WholeValues", spec := "wholeValues", inPlace := ["internal/abi.NoEscape", "internal/bytealg.MakeNoZero"], unfollowed := true, recurses := true, apart := false }
def WholeValuesSaid : Prop := wholeValuesRow.holds Try.pinned (OpenSpec.ofChange wholeValuesSpec)

/-- ITS FALSE NEIGHBOUR: 'it returns false'. Refute it at one input. -/
def wholeValuesWrong : ChangeSpec := { name := "wholeValues", fn := fun _ => fun
  | [d1, d2] => { results := [.lit (.bool false)], args := [d1, d2] }
  | _ => none }
def WholeValuesWrongFalsely : Prop := wholeValuesRow.holds Try.pinned (OpenSpec.ofChange wholeValuesWrong)

/- THE SECOND FORM. 'bulk': how many values and letters a reading holds, each counted each time it is reached (what is shared counts as often as it is met; a slice's spare places count too). A statement '..UptoSaid' is the law's where the arguments, and the package variables that the reading takes, are together of bulk at most 1048576: NARROWER than '..Said'. Prove '..Said' where nothing that the law and all that it calls make is longer than what came in: it says more and counts as full. Else prove '..UptoSaid'. A law counts once. -/
mutual
def uptoBulk {H : Type} : DataW H → Nat
  | .lit (.string bytes) => bytes.length + 1
  | .lit _ => 1
  | .nil => 1
  | .ptr d => uptoBulk d + 1
  | .slice elems spare => uptoBulkAll elems + uptoBulkAll spare + 1
  | .agg parts => uptoBulkAll parts + 1
  | .iface _ d => uptoBulk d + 1
  | .map entries => uptoBulkEntries entries + 1
  | .held _ => 1
def uptoBulkAll {H : Type} : List (DataW H) → Nat
  | [] => 0
  | d :: r => uptoBulk d + uptoBulkAll r
def uptoBulkEntries {H : Type} : List (Lit × DataW H) → Nat
  | [] => 0
  | x :: r => uptoBulkEntry x + uptoBulkEntries r
def uptoBulkEntry {H : Type} : Lit × DataW H → Nat
  | (.string bytes, d) => bytes.length + uptoBulk d + 1
  | (_, d) => uptoBulk d + 1
 end
def uptoSmall : (H : Type) → List (DataW H) → Bool := fun _ ds => decide (uptoBulkAll ds ≤ 1048576)
def OpenSpec.upto (s : _root_.Go.ChangeSpec) : _root_.Go.OpenSpec := { _root_.Go.OpenSpec.ofChange s with cond := some uptoSmall }

/-- 'dreylaw01.NumTexts', WHERE WHAT IT READS IS OF BULK AT MOST 1048576: true; the input reads as it did. -/
def numTextsUptoRow : OpenClaim := { program := "ytcjmoobdoinbkaa", sum := "bd75a54a4161444bc61bc84043064b9e67773adcdf6a624238f7de4038023d98", func := "drey/dreylaw01.NumTexts", spec := "numTexts", inPlace := ["internal/bytealg.IndexByteString", "math/bits.Add64"], apart := false, narrowed := true }
def NumTextsUptoSaid : Prop := numTextsUptoRow.holds Try.pinned (OpenSpec.upto numTextsSpec)

/-- 'dreylaw01.NumParses', WHERE WHAT IT READS IS OF BULK AT MOST 1048576: true; the input reads as it did. -/
def numParsesUptoRow : OpenClaim := { program := "ytcjmoobdoinbkaa", sum := "bd75a54a4161444bc61bc84043064b9e67773adcdf6a624238f7de4038023d98", func := "drey/dreylaw01.NumParses", spec := "numParses", inPlace := ["internal/bytealg.IndexByteString", "math/bits.Add64"], apart := false, narrowed := true }
def NumParsesUptoSaid : Prop := numParsesUptoRow.holds Try.pinned (OpenSpec.upto numParsesSpec)

/-- 'dreylaw01.NumLeads', WHERE WHAT IT READS IS OF BULK AT MOST 1048576: true; the input reads as it did. -/
def numLeadsUptoRow : OpenClaim := { program := "ytcjmoobdoinbkaa", sum := "bd75a54a4161444bc61bc84043064b9e67773adcdf6a624238f7de4038023d98", func := "drey/dreylaw01.NumLeads", spec := "numLeads", inPlace := ["internal/bytealg.IndexByteString", "math/bits.Add64"], apart := false, narrowed := true }
def NumLeadsUptoSaid : Prop := numLeadsUptoRow.holds Try.pinned (OpenSpec.upto numLeadsSpec)

/-- 'dreylaw01.NumQuotients', WHERE WHAT IT READS IS OF BULK AT MOST 1048576: true; the input reads as it did. -/
def numQuotientsUptoRow : OpenClaim := { program := "ytcjmoobdoinbkaa", sum := "bd75a54a4161444bc61bc84043064b9e67773adcdf6a624238f7de4038023d98", func := "drey/dreylaw01.NumQuotients", spec := "numQuotients", inPlace := ["internal/bytealg.IndexByteString", "math/bits.Add64"], apart := false, narrowed := true }
def NumQuotientsUptoSaid : Prop := numQuotientsUptoRow.holds Try.pinned (OpenSpec.upto numQuotientsSpec)

/-- 'dreylaw01.NumRounds', WHERE WHAT IT READS IS OF BULK AT MOST 1048576: true; the input reads as it did. -/
def numRoundsUptoRow : OpenClaim := { program := "ytcjmoobdoinbkaa", sum := "bd75a54a4161444bc61bc84043064b9e67773adcdf6a624238f7de4038023d98", func := "drey/dreylaw01.NumRounds", spec := "numRounds", inPlace := ["internal/bytealg.IndexByteString", "math/bits.Add64"], apart := false, narrowed := true }
def NumRoundsUptoSaid : Prop := numRoundsUptoRow.holds Try.pinned (OpenSpec.upto numRoundsSpec)

/-- 'dreylaw01.NumBits', WHERE WHAT IT READS IS OF BULK AT MOST 1048576: true; the input reads as it did. -/
def numBitsUptoRow : OpenClaim := { program := "ytcjmoobdoinbkaa", sum := "bd75a54a4161444bc61bc84043064b9e67773adcdf6a624238f7de4038023d98", func := "drey/dreylaw01.NumBits", spec := "numBits", inPlace := ["internal/bytealg.IndexByteString", "math/bits.Add64"], apart := false, narrowed := true }
def NumBitsUptoSaid : Prop := numBitsUptoRow.holds Try.pinned (OpenSpec.upto numBitsSpec)

/-- 'dreylaw01.NumOrders', WHERE WHAT IT READS IS OF BULK AT MOST 1048576: true; the input reads as it did. -/
def numOrdersUptoRow : OpenClaim := { program := "ytcjmoobdoinbkaa", sum := "bd75a54a4161444bc61bc84043064b9e67773adcdf6a624238f7de4038023d98", func := "drey/dreylaw01.NumOrders", spec := "numOrders", inPlace := ["internal/bytealg.IndexByteString", "math/bits.Add64"], apart := false, narrowed := true }
def NumOrdersUptoSaid : Prop := numOrdersUptoRow.holds Try.pinned (OpenSpec.upto numOrdersSpec)

/-- 'dreytop.WholeDigits', WHERE WHAT IT READS IS OF BULK AT MOST 1048576: true; the input reads as it did. -/
def wholeDigitsUptoRow : OpenClaim := { program := "ytcjmoobdoinbkaa", sum := "bd75a54a4161444bc61bc84043064b9e67773adcdf6a624238f7de4038023d98", func := "drey/dreytop.WholeDigits", spec := "wholeDigits", inPlace := ["internal/bytealg.IndexByteString", "math/bits.Add64"], apart := false, narrowed := true }
def WholeDigitsUptoSaid : Prop := wholeDigitsUptoRow.holds Try.pinned (OpenSpec.upto wholeDigitsSpec)

/-- 'dreytop.WholeValues', WHERE WHAT IT READS IS OF BULK AT MOST 1048576: true; the input reads as it did. -/
def wholeValuesUptoRow : OpenClaim := { program := "ytcjmoobdoinbkaa", sum := "bd75a54a4161444bc61bc84043064b9e67773adcdf6a624238f7de4038023d98", func := "drey/dreytop.WholeValues", spec := "wholeValues", inPlace := ["internal/abi.NoEscape", "internal/bytealg.MakeNoZero"], unfollowed := true, recurses := true, apart := false, narrowed := true }
def WholeValuesUptoSaid : Prop := wholeValuesUptoRow.holds Try.pinned (OpenSpec.upto wholeValuesSpec)

end Rows
end Go.Proofs.Ytcjmoobdoinbkaa
