/-
  No cell of these rows narrows 'for every input' (looked for: loops, veiled, ifaces, maps, wideKeys, modest, calm, conditions, laid).
  DERIVED. THE GIVEN ROWS OF THIS SEAT. 6 by the template 'for every input the law returns true; each argument reads behind the call as it read before'; 0 by the template 'total and deterministic' (their statements: YtmafojaagmneoaaTotals.lean).
  GIVEN WITH THE SEED: the statements are not yours to turn. If you find one false, say at which input.
  Laid BY PROGRAM, IN A SANDBOX (cutbox-rows.mjs): the forced cells as the released guide's own fill.sh prints them over the translation d87bfef46c6440a6… (all of the seat's roots in one cut). By AI agents, Wed Nov 11 2026. No macro, syntax, notation, axiom, sorry.
-/
import Derived.Test.YtmafojaagmneoaaChecked
import GoSem.Claim
import GoSem.ClaimJoined
import GoSem.ClaimMapViews
import Derived.JoinedTies
import Derived.KernelRfl
namespace Go.Proofs.Ytmafojaagmneoaa
/- THE CELL 'sum', in the pinned program and in every row, IS THE sha256 OF THE DUMP (.gsa) THAT YtmafojaagmneoaaProg.lean LOADS. Nothing in Lean hashes anything: it is a label: what it is worth is what the hold of that sum in a sandbox is worth. -/
noncomputable def Try.pinned : Pinned := { name := "ytmafojaagmneoaa", sum := "d87bfef46c6440a6ad585b6c24f7535aba15c36c7fed3fe7c3d0363b635290c6", checked := Try.checked }
namespace Rows
def none {H : Type} : Left H := { results := [], args := [] }

/-- 'lightclientlaw05.GroupConstants': WHATEVER THE INPUT: true; the input reads as it did. -/
def groupConstantsSpec : ChangeSpec := { name := "groupConstants", fn := fun _ => fun
  | [d] => { results := [.lit (.bool true)], args := [d] }
  | _ => none }
def groupConstantsRow : OpenClaim := { program := "ytmafojaagmneoaa", sum := "d87bfef46c6440a6ad585b6c24f7535aba15c36c7fed3fe7c3d0363b635290c6", func := "lightclient/lightclientlaw05.GroupConstants", spec := "groupConstants", inPlace := ["math/bits.Add64", "math/bits.Sub64"], plainKeys := false, apart := false }
def GroupConstantsSaid : Prop := groupConstantsRow.holds Try.pinned (OpenSpec.ofChange groupConstantsSpec)

/-- ITS FALSE NEIGHBOUR: 'it returns false'. Refute it at one input. -/
def groupConstantsWrong : ChangeSpec := { name := "groupConstants", fn := fun _ => fun
  | [d] => { results := [.lit (.bool false)], args := [d] }
  | _ => none }
def GroupConstantsWrongFalsely : Prop := groupConstantsRow.holds Try.pinned (OpenSpec.ofChange groupConstantsWrong)

/-- 'lightclientlaw05.GroupSquares': WHATEVER THE INPUT: true; the input reads as it did. -/
def groupSquaresSpec : ChangeSpec := { name := "groupSquares", fn := fun _ => fun
  | [d] => { results := [.lit (.bool true)], args := [d] }
  | _ => none }
def groupSquaresRow : OpenClaim := { program := "ytmafojaagmneoaa", sum := "d87bfef46c6440a6ad585b6c24f7535aba15c36c7fed3fe7c3d0363b635290c6", func := "lightclient/lightclientlaw05.GroupSquares", spec := "groupSquares", inPlace := ["math/bits.Add64", "math/bits.Sub64"], plainKeys := false, apart := false }
def GroupSquaresSaid : Prop := groupSquaresRow.holds Try.pinned (OpenSpec.ofChange groupSquaresSpec)

/-- ITS FALSE NEIGHBOUR: 'it returns false'. Refute it at one input. -/
def groupSquaresWrong : ChangeSpec := { name := "groupSquares", fn := fun _ => fun
  | [d] => { results := [.lit (.bool false)], args := [d] }
  | _ => none }
def GroupSquaresWrongFalsely : Prop := groupSquaresRow.holds Try.pinned (OpenSpec.ofChange groupSquaresWrong)

/-- 'lightclientlaw10.SpendFees': WHATEVER THE INPUT: true; the input reads as it did. -/
def spendFeesSpec : ChangeSpec := { name := "spendFees", fn := fun _ => fun
  | [d1, d2] => { results := [.lit (.bool true)], args := [d1, d2] }
  | _ => none }
def spendFeesRow : OpenClaim := { program := "ytmafojaagmneoaa", sum := "d87bfef46c6440a6ad585b6c24f7535aba15c36c7fed3fe7c3d0363b635290c6", func := "lightclient/lightclientlaw10.SpendFees", spec := "spendFees", plainKeys := false, apart := false }
def SpendFeesSaid : Prop := spendFeesRow.holds Try.pinned (OpenSpec.ofChange spendFeesSpec)

/-- ITS FALSE NEIGHBOUR: 'it returns false'. Refute it at one input. -/
def spendFeesWrong : ChangeSpec := { name := "spendFees", fn := fun _ => fun
  | [d1, d2] => { results := [.lit (.bool false)], args := [d1, d2] }
  | _ => none }
def SpendFeesWrongFalsely : Prop := spendFeesRow.holds Try.pinned (OpenSpec.ofChange spendFeesWrong)

/-- 'lightclientlaw05.GroupCloses': WHATEVER THE INPUT: true; the input reads as it did. -/
def groupClosesSpec : ChangeSpec := { name := "groupCloses", fn := fun _ => fun
  | [d1, d2] => { results := [.lit (.bool true)], args := [d1, d2] }
  | _ => none }
def groupClosesRow : OpenClaim := { program := "ytmafojaagmneoaa", sum := "d87bfef46c6440a6ad585b6c24f7535aba15c36c7fed3fe7c3d0363b635290c6", func := "lightclient/lightclientlaw05.GroupCloses", spec := "groupCloses", inPlace := ["math/bits.Sub64", "math/bits.Add64"], plainKeys := false, apart := false }
def GroupClosesSaid : Prop := groupClosesRow.holds Try.pinned (OpenSpec.ofChange groupClosesSpec)

/-- ITS FALSE NEIGHBOUR: 'it returns false'. Refute it at one input. -/
def groupClosesWrong : ChangeSpec := { name := "groupCloses", fn := fun _ => fun
  | [d1, d2] => { results := [.lit (.bool false)], args := [d1, d2] }
  | _ => none }
def GroupClosesWrongFalsely : Prop := groupClosesRow.holds Try.pinned (OpenSpec.ofChange groupClosesWrong)

/-- 'lightclientlaw05.GroupAdds': WHATEVER THE INPUT: true; the input reads as it did. -/
def groupAddsSpec : ChangeSpec := { name := "groupAdds", fn := fun _ => fun
  | [d1, d2] => { results := [.lit (.bool true)], args := [d1, d2] }
  | _ => none }
def groupAddsRow : OpenClaim := { program := "ytmafojaagmneoaa", sum := "d87bfef46c6440a6ad585b6c24f7535aba15c36c7fed3fe7c3d0363b635290c6", func := "lightclient/lightclientlaw05.GroupAdds", spec := "groupAdds", inPlace := ["math/bits.Sub64", "math/bits.Add64"], plainKeys := false, apart := false }
def GroupAddsSaid : Prop := groupAddsRow.holds Try.pinned (OpenSpec.ofChange groupAddsSpec)

/-- ITS FALSE NEIGHBOUR: 'it returns false'. Refute it at one input. -/
def groupAddsWrong : ChangeSpec := { name := "groupAdds", fn := fun _ => fun
  | [d1, d2] => { results := [.lit (.bool false)], args := [d1, d2] }
  | _ => none }
def GroupAddsWrongFalsely : Prop := groupAddsRow.holds Try.pinned (OpenSpec.ofChange groupAddsWrong)

/-- 'lightclientlaw05.GroupScalars': WHATEVER THE INPUT: true; the input reads as it did. -/
def groupScalarsSpec : ChangeSpec := { name := "groupScalars", fn := fun _ => fun
  | [d1, d2, d3] => { results := [.lit (.bool true)], args := [d1, d2, d3] }
  | _ => none }
def groupScalarsRow : OpenClaim := { program := "ytmafojaagmneoaa", sum := "d87bfef46c6440a6ad585b6c24f7535aba15c36c7fed3fe7c3d0363b635290c6", func := "lightclient/lightclientlaw05.GroupScalars", spec := "groupScalars", inPlace := ["math/bits.Add64", "math/bits.Sub64"], plainKeys := false, apart := false }
def GroupScalarsSaid : Prop := groupScalarsRow.holds Try.pinned (OpenSpec.ofChange groupScalarsSpec)

/-- ITS FALSE NEIGHBOUR: 'it returns false'. Refute it at one input. -/
def groupScalarsWrong : ChangeSpec := { name := "groupScalars", fn := fun _ => fun
  | [d1, d2, d3] => { results := [.lit (.bool false)], args := [d1, d2, d3] }
  | _ => none }
def GroupScalarsWrongFalsely : Prop := groupScalarsRow.holds Try.pinned (OpenSpec.ofChange groupScalarsWrong)

/- THE SECOND FORM. 'bulk': how many values and letters a reading holds, each counted each time it is reached (what is shared counts as often as it is met; a slice's spare places count too). A statement '..UptoSaid' is the law's where the arguments, and the package variables that the reading takes, are together of bulk at most 1048576: NARROWER than '..Said'. Prove '..Said' where nothing that the law and all that it calls make is longer than what came in: it says more and counts as full. Else prove '..UptoSaid'. A law counts once. -/
mutual
def uptoBulk {H : Type} : DataW H → Nat
  | .lit (.string bytes) => bytes.length + 1
  | .lit _ => 1
  | .nil => 1
  | .ptr d => uptoBulk d + 1
  | .slice elems spare => uptoBulkAll elems + uptoBulkAll spare + 1
  | .agg parts => uptoBulkAll parts + 1
  | .iface _ d => uptoBulk d + 1
  | .map entries => uptoBulkEntries entries + 1
  | .held _ => 1
def uptoBulkAll {H : Type} : List (DataW H) → Nat
  | [] => 0
  | d :: r => uptoBulk d + uptoBulkAll r
def uptoBulkEntries {H : Type} : List (Lit × DataW H) → Nat
  | [] => 0
  | x :: r => uptoBulkEntry x + uptoBulkEntries r
def uptoBulkEntry {H : Type} : Lit × DataW H → Nat
  | (.string bytes, d) => bytes.length + uptoBulk d + 1
  | (_, d) => uptoBulk d + 1
 end
def uptoSmall : (H : Type) → List (DataW H) → Bool := fun _ ds => decide (uptoBulkAll ds ≤ 1048576)
def OpenSpec.upto (s : _root_.Go.ChangeSpec) : _root_.Go.OpenSpec := { _root_.Go.OpenSpec.ofChange s with cond := some uptoSmall }

/-- 'lightclientlaw05.GroupConstants', WHERE WHAT IT READS IS OF BULK AT MOST 1048576: true; the input reads as it did. -/
def groupConstantsUptoRow : OpenClaim := { program := "ytmafojaagmneoaa", sum := "d87bfef46c6440a6ad585b6c24f7535aba15c36c7fed3fe7c3d0363b635290c6", func := "lightclient/lightclientlaw05.GroupConstants", spec := "groupConstants", inPlace := ["math/bits.Add64", "math/bits.Sub64"], plainKeys := false, apart := false, narrowed := true }
def GroupConstantsUptoSaid : Prop := groupConstantsUptoRow.holds Try.pinned (OpenSpec.upto groupConstantsSpec)

/-- 'lightclientlaw05.GroupSquares', WHERE WHAT IT READS IS OF BULK AT MOST 1048576: true; the input reads as it did. -/
def groupSquaresUptoRow : OpenClaim := { program := "ytmafojaagmneoaa", sum := "d87bfef46c6440a6ad585b6c24f7535aba15c36c7fed3fe7c3d0363b635290c6", func := "lightclient/lightclientlaw05.GroupSquares", spec := "groupSquares", inPlace := ["math/bits.Add64", "math/bits.Sub64"], plainKeys := false, apart := false, narrowed := true }
def GroupSquaresUptoSaid : Prop := groupSquaresUptoRow.holds Try.pinned (OpenSpec.upto groupSquaresSpec)

/-- 'lightclientlaw10.SpendFees', WHERE WHAT IT READS IS OF BULK AT MOST 1048576: true; the input reads as it did. -/
def spendFeesUptoRow : OpenClaim := { program := "ytmafojaagmneoaa", sum := "d87bfef46c6440a6ad585b6c24f7535aba15c36c7fed3fe7c3d0363b635290c6", func := "lightclient/lightclientlaw10.SpendFees", spec := "spendFees", plainKeys := false, apart := false, narrowed := true }
def SpendFeesUptoSaid : Prop := spendFeesUptoRow.holds Try.pinned (OpenSpec.upto spendFeesSpec)

/-- 'lightclientlaw05.GroupCloses', WHERE WHAT IT READS IS OF BULK AT MOST 1048576: true; the input reads as it did. -/
def groupClosesUptoRow : OpenClaim := { program := "ytmafojaagmneoaa", sum := "d87bfef46c6440a6ad585b6c24f7535aba15c36c7fed3fe7c3d0363b635290c6", func := "lightclient/lightclientlaw05.GroupCloses", spec := "groupCloses", inPlace := ["math/bits.Sub64", "math/bits.Add64"], plainKeys := false, apart := false, narrowed := true }
def GroupClosesUptoSaid : Prop := groupClosesUptoRow.holds Try.pinned (OpenSpec.upto groupClosesSpec)

/-- 'lightclientlaw05.GroupAdds', WHERE WHAT IT READS IS OF BULK AT MOST 1048576: true; the input reads as it did. -/
def groupAddsUptoRow : OpenClaim := { program := "ytmafojaagmneoaa", sum := "d87bfef46c6440a6ad585b6c24f7535aba15c36c7fed3fe7c3d0363b635290c6", func := "lightclient/lightclientlaw05.GroupAdds", spec := "groupAdds", inPlace := ["math/bits.Sub64", "math/bits.Add64"], plainKeys := false, apart := false, narrowed := true }
def GroupAddsUptoSaid : Prop := groupAddsUptoRow.holds Try.pinned (OpenSpec.upto groupAddsSpec)

/-- 'lightclientlaw05.GroupScalars', WHERE WHAT IT READS IS OF BULK AT MOST 1048576: true; the input reads as it did. -/
def groupScalarsUptoRow : OpenClaim := { program := "ytmafojaagmneoaa", sum := "d87bfef46c6440a6ad585b6c24f7535aba15c36c7fed3fe7c3d0363b635290c6", func := "lightclient/lightclientlaw05.GroupScalars", spec := "groupScalars", inPlace := ["math/bits.Add64", "math/bits.Sub64"], plainKeys := false, apart := false, narrowed := true }
def GroupScalarsUptoSaid : Prop := groupScalarsUptoRow.holds Try.pinned (OpenSpec.upto groupScalarsSpec)

end Rows
end Go.Proofs.Ytmafojaagmneoaa
