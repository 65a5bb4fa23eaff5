/-
  No cell of these rows narrows 'for every input' (looked for: loops, veiled, ifaces, maps, wideKeys, modest, calm, conditions, laid).
  DERIVED. THE GIVEN ROWS OF THIS SEAT. 9 by the template 'for every input the law returns true; each argument reads behind the call as it read before'; 0 by the template 'total and deterministic' (their statements: YtbdalbibdkipcaaTotals.lean).
  GIVEN WITH THE SEED: the statements are not yours to turn. If you find one false, say at which input.
  Laid BY PROGRAM, IN A SANDBOX (cutbox-rows.mjs): the forced cells as the released guide's own fill.sh prints them over the translation 97183c84187ed686… (all of the seat's roots in one cut). By AI agents, Wed Nov 11 2026. No macro, syntax, notation, axiom, sorry.
-/
import Derived.Test.YtbdalbibdkipcaaChecked
import GoSem.Claim
import GoSem.ClaimJoined
import GoSem.ClaimMapViews
import Derived.JoinedTies
import Derived.KernelRfl
namespace Go.Proofs.Ytbdalbibdkipcaa
/- THE CELL 'sum', in the pinned program and in every row, IS THE sha256 OF THE DUMP (.gsa) THAT YtbdalbibdkipcaaProg.lean LOADS. Nothing in Lean hashes anything: it is a label: what it is worth is what the hold of that sum in a sandbox is worth. -/
noncomputable def Try.pinned : Pinned := { name := "ytbdalbibdkipcaa", sum := "97183c84187ed68685d498e0f889eaddb32e68c8534ae659b348b83d6195898b", checked := Try.checked }
namespace Rows
def none {H : Type} : Left H := { results := [], args := [] }

/-- 'lightclientlaw01.CodecSizes': WHATEVER THE INPUT: true; the input reads as it did. -/
def codecSizesSpec : ChangeSpec := { name := "codecSizes", fn := fun _ => fun
  | [d1, d2, d3] => { results := [.lit (.bool true)], args := [d1, d2, d3] }
  | _ => none }
def codecSizesRow : OpenClaim := { program := "ytbdalbibdkipcaa", sum := "97183c84187ed68685d498e0f889eaddb32e68c8534ae659b348b83d6195898b", func := "lightclient/lightclientlaw01.CodecSizes", spec := "codecSizes", apart := false }
def CodecSizesSaid : Prop := codecSizesRow.holds Try.pinned (OpenSpec.ofChange codecSizesSpec)

/-- ITS FALSE NEIGHBOUR: 'it returns false'. Refute it at one input. -/
def codecSizesWrong : ChangeSpec := { name := "codecSizes", fn := fun _ => fun
  | [d1, d2, d3] => { results := [.lit (.bool false)], args := [d1, d2, d3] }
  | _ => none }
def CodecSizesWrongFalsely : Prop := codecSizesRow.holds Try.pinned (OpenSpec.ofChange codecSizesWrong)

/-- 'lightclientlaw01.CodecCanonical': WHATEVER THE INPUT: true; the input reads as it did. -/
def codecCanonicalSpec : ChangeSpec := { name := "codecCanonical", fn := fun _ => fun
  | [d1, d2] => { results := [.lit (.bool true)], args := [d1, d2] }
  | _ => none }
def codecCanonicalRow : OpenClaim := { program := "ytbdalbibdkipcaa", sum := "97183c84187ed68685d498e0f889eaddb32e68c8534ae659b348b83d6195898b", func := "lightclient/lightclientlaw01.CodecCanonical", spec := "codecCanonical", apart := false }
def CodecCanonicalSaid : Prop := codecCanonicalRow.holds Try.pinned (OpenSpec.ofChange codecCanonicalSpec)

/-- ITS FALSE NEIGHBOUR: 'it returns false'. Refute it at one input. -/
def codecCanonicalWrong : ChangeSpec := { name := "codecCanonical", fn := fun _ => fun
  | [d1, d2] => { results := [.lit (.bool false)], args := [d1, d2] }
  | _ => none }
def CodecCanonicalWrongFalsely : Prop := codecCanonicalRow.holds Try.pinned (OpenSpec.ofChange codecCanonicalWrong)

/-- 'lightclientlaw01.CodecAppends': WHATEVER THE INPUT: true; the input reads as it did. -/
def codecAppendsSpec : ChangeSpec := { name := "codecAppends", fn := fun _ => fun
  | [d1, d2, d3, d4] => { results := [.lit (.bool true)], args := [d1, d2, d3, d4] }
  | _ => none }
def codecAppendsRow : OpenClaim := { program := "ytbdalbibdkipcaa", sum := "97183c84187ed68685d498e0f889eaddb32e68c8534ae659b348b83d6195898b", func := "lightclient/lightclientlaw01.CodecAppends", spec := "codecAppends", apart := false }
def CodecAppendsSaid : Prop := codecAppendsRow.holds Try.pinned (OpenSpec.ofChange codecAppendsSpec)

/-- ITS FALSE NEIGHBOUR: 'it returns false'. Refute it at one input. -/
def codecAppendsWrong : ChangeSpec := { name := "codecAppends", fn := fun _ => fun
  | [d1, d2, d3, d4] => { results := [.lit (.bool false)], args := [d1, d2, d3, d4] }
  | _ => none }
def CodecAppendsWrongFalsely : Prop := codecAppendsRow.holds Try.pinned (OpenSpec.ofChange codecAppendsWrong)

/-- 'lightclientlaw01.CodecStrings': WHATEVER THE INPUT: true; the input reads as it did. -/
def codecStringsSpec : ChangeSpec := { name := "codecStrings", fn := fun _ => fun
  | [d1, d2, d3] => { results := [.lit (.bool true)], args := [d1, d2, d3] }
  | _ => none }
def codecStringsRow : OpenClaim := { program := "ytbdalbibdkipcaa", sum := "97183c84187ed68685d498e0f889eaddb32e68c8534ae659b348b83d6195898b", func := "lightclient/lightclientlaw01.CodecStrings", spec := "codecStrings", apart := false }
def CodecStringsSaid : Prop := codecStringsRow.holds Try.pinned (OpenSpec.ofChange codecStringsSpec)

/-- ITS FALSE NEIGHBOUR: 'it returns false'. Refute it at one input. -/
def codecStringsWrong : ChangeSpec := { name := "codecStrings", fn := fun _ => fun
  | [d1, d2, d3] => { results := [.lit (.bool false)], args := [d1, d2, d3] }
  | _ => none }
def CodecStringsWrongFalsely : Prop := codecStringsRow.holds Try.pinned (OpenSpec.ofChange codecStringsWrong)

/-- 'lightclientlaw01.CodecFresh': WHATEVER THE INPUT: true; the input reads as it did. -/
def codecFreshSpec : ChangeSpec := { name := "codecFresh", fn := fun _ => fun
  | [d1, d2] => { results := [.lit (.bool true)], args := [d1, d2] }
  | _ => none }
def codecFreshRow : OpenClaim := { program := "ytbdalbibdkipcaa", sum := "97183c84187ed68685d498e0f889eaddb32e68c8534ae659b348b83d6195898b", func := "lightclient/lightclientlaw01.CodecFresh", spec := "codecFresh", apart := false }
def CodecFreshSaid : Prop := codecFreshRow.holds Try.pinned (OpenSpec.ofChange codecFreshSpec)

/-- ITS FALSE NEIGHBOUR: 'it returns false'. Refute it at one input. -/
def codecFreshWrong : ChangeSpec := { name := "codecFresh", fn := fun _ => fun
  | [d1, d2] => { results := [.lit (.bool false)], args := [d1, d2] }
  | _ => none }
def CodecFreshWrongFalsely : Prop := codecFreshRow.holds Try.pinned (OpenSpec.ofChange codecFreshWrong)

/-- 'lightclientlaw01.CodecReads': WHATEVER THE INPUT: true; the input reads as it did. -/
def codecReadsSpec : ChangeSpec := { name := "codecReads", fn := fun _ => fun
  | [d1, d2] => { results := [.lit (.bool true)], args := [d1, d2] }
  | _ => none }
def codecReadsRow : OpenClaim := { program := "ytbdalbibdkipcaa", sum := "97183c84187ed68685d498e0f889eaddb32e68c8534ae659b348b83d6195898b", func := "lightclient/lightclientlaw01.CodecReads", spec := "codecReads", apart := false }
def CodecReadsSaid : Prop := codecReadsRow.holds Try.pinned (OpenSpec.ofChange codecReadsSpec)

/-- ITS FALSE NEIGHBOUR: 'it returns false'. Refute it at one input. -/
def codecReadsWrong : ChangeSpec := { name := "codecReads", fn := fun _ => fun
  | [d1, d2] => { results := [.lit (.bool false)], args := [d1, d2] }
  | _ => none }
def CodecReadsWrongFalsely : Prop := codecReadsRow.holds Try.pinned (OpenSpec.ofChange codecReadsWrong)

/-- 'lightclientlaw01.CodecHex': WHATEVER THE INPUT: true; the input reads as it did. -/
def codecHexSpec : ChangeSpec := { name := "codecHex", fn := fun _ => fun
  | [d1, d2] => { results := [.lit (.bool true)], args := [d1, d2] }
  | _ => none }
def codecHexRow : OpenClaim := { program := "ytbdalbibdkipcaa", sum := "97183c84187ed68685d498e0f889eaddb32e68c8534ae659b348b83d6195898b", func := "lightclient/lightclientlaw01.CodecHex", spec := "codecHex", apart := false }
def CodecHexSaid : Prop := codecHexRow.holds Try.pinned (OpenSpec.ofChange codecHexSpec)

/-- ITS FALSE NEIGHBOUR: 'it returns false'. Refute it at one input. -/
def codecHexWrong : ChangeSpec := { name := "codecHex", fn := fun _ => fun
  | [d1, d2] => { results := [.lit (.bool false)], args := [d1, d2] }
  | _ => none }
def CodecHexWrongFalsely : Prop := codecHexRow.holds Try.pinned (OpenSpec.ofChange codecHexWrong)

/-- 'lightclientlaw01.CodecLimits': WHATEVER THE INPUT: true; the input reads as it did. -/
def codecLimitsSpec : ChangeSpec := { name := "codecLimits", fn := fun _ => fun
  | [d] => { results := [.lit (.bool true)], args := [d] }
  | _ => none }
def codecLimitsRow : OpenClaim := { program := "ytbdalbibdkipcaa", sum := "97183c84187ed68685d498e0f889eaddb32e68c8534ae659b348b83d6195898b", func := "lightclient/lightclientlaw01.CodecLimits", spec := "codecLimits", apart := false }
def CodecLimitsSaid : Prop := codecLimitsRow.holds Try.pinned (OpenSpec.ofChange codecLimitsSpec)

/-- ITS FALSE NEIGHBOUR: 'it returns false'. Refute it at one input. -/
def codecLimitsWrong : ChangeSpec := { name := "codecLimits", fn := fun _ => fun
  | [d] => { results := [.lit (.bool false)], args := [d] }
  | _ => none }
def CodecLimitsWrongFalsely : Prop := codecLimitsRow.holds Try.pinned (OpenSpec.ofChange codecLimitsWrong)

/-- 'lightclientlaw01.CodecBack': WHATEVER THE INPUT: true; the input reads as it did. -/
def codecBackSpec : ChangeSpec := { name := "codecBack", fn := fun _ => fun
  | [d1, d2, d3, d4] => { results := [.lit (.bool true)], args := [d1, d2, d3, d4] }
  | _ => none }
def codecBackRow : OpenClaim := { program := "ytbdalbibdkipcaa", sum := "97183c84187ed68685d498e0f889eaddb32e68c8534ae659b348b83d6195898b", func := "lightclient/lightclientlaw01.CodecBack", spec := "codecBack", apart := false }
def CodecBackSaid : Prop := codecBackRow.holds Try.pinned (OpenSpec.ofChange codecBackSpec)

/-- ITS FALSE NEIGHBOUR: 'it returns false'. Refute it at one input. -/
def codecBackWrong : ChangeSpec := { name := "codecBack", fn := fun _ => fun
  | [d1, d2, d3, d4] => { results := [.lit (.bool false)], args := [d1, d2, d3, d4] }
  | _ => none }
def CodecBackWrongFalsely : Prop := codecBackRow.holds Try.pinned (OpenSpec.ofChange codecBackWrong)

/- THE SECOND FORM. 'bulk': how many values and letters a reading holds, each counted each time it is reached (what is shared counts as often as it is met; a slice's spare places count too). A statement '..UptoSaid' is the law's where the arguments, and the package variables that the reading takes, are together of bulk at most 1048576: NARROWER than '..Said'. Prove '..Said' where nothing that the law and all that it calls make is longer than what came in: it says more and counts as full. Else prove '..UptoSaid'. A law counts once. -/
mutual
def uptoBulk {H : Type} : DataW H → Nat
  | .lit (.string bytes) => bytes.length + 1
  | .lit _ => 1
  | .nil => 1
  | .ptr d => uptoBulk d + 1
  | .slice elems spare => uptoBulkAll elems + uptoBulkAll spare + 1
  | .agg parts => uptoBulkAll parts + 1
  | .iface _ d => uptoBulk d + 1
  | .map entries => uptoBulkEntries entries + 1
  | .held _ => 1
def uptoBulkAll {H : Type} : List (DataW H) → Nat
  | [] => 0
  | d :: r => uptoBulk d + uptoBulkAll r
def uptoBulkEntries {H : Type} : List (Lit × DataW H) → Nat
  | [] => 0
  | x :: r => uptoBulkEntry x + uptoBulkEntries r
def uptoBulkEntry {H : Type} : Lit × DataW H → Nat
  | (.string bytes, d) => bytes.length + uptoBulk d + 1
  | (_, d) => uptoBulk d + 1
 end
def uptoSmall : (H : Type) → List (DataW H) → Bool := fun _ ds => decide (uptoBulkAll ds ≤ 1048576)
def OpenSpec.upto (s : _root_.Go.ChangeSpec) : _root_.Go.OpenSpec := { _root_.Go.OpenSpec.ofChange s with cond := some uptoSmall }

/-- 'lightclientlaw01.CodecSizes', WHERE WHAT IT READS IS OF BULK AT MOST 1048576: true; the input reads as it did. -/
def codecSizesUptoRow : OpenClaim := { program := "ytbdalbibdkipcaa", sum := "97183c84187ed68685d498e0f889eaddb32e68c8534ae659b348b83d6195898b", func := "lightclient/lightclientlaw01.CodecSizes", spec := "codecSizes", apart := false, narrowed := true }
def CodecSizesUptoSaid : Prop := codecSizesUptoRow.holds Try.pinned (OpenSpec.upto codecSizesSpec)

/-- 'lightclientlaw01.CodecCanonical', WHERE WHAT IT READS IS OF BULK AT MOST 1048576: true; the input reads as it did. -/
def codecCanonicalUptoRow : OpenClaim := { program := "ytbdalbibdkipcaa", sum := "97183c84187ed68685d498e0f889eaddb32e68c8534ae659b348b83d6195898b", func := "lightclient/lightclientlaw01.CodecCanonical", spec := "codecCanonical", apart := false, narrowed := true }
def CodecCanonicalUptoSaid : Prop := codecCanonicalUptoRow.holds Try.pinned (OpenSpec.upto codecCanonicalSpec)

/-- 'lightclientlaw01.CodecAppends', WHERE WHAT IT READS IS OF BULK AT MOST 1048576: true; the input reads as it did. -/
def codecAppendsUptoRow : OpenClaim := { program := "ytbdalbibdkipcaa", sum := "97183c84187ed68685d498e0f889eaddb32e68c8534ae659b348b83d6195898b", func := "lightclient/lightclientlaw01.CodecAppends", spec := "codecAppends", apart := false, narrowed := true }
def CodecAppendsUptoSaid : Prop := codecAppendsUptoRow.holds Try.pinned (OpenSpec.upto codecAppendsSpec)

/-- 'lightclientlaw01.CodecStrings', WHERE WHAT IT READS IS OF BULK AT MOST 1048576: true; the input reads as it did. -/
def codecStringsUptoRow : OpenClaim := { program := "ytbdalbibdkipcaa", sum := "97183c84187ed68685d498e0f889eaddb32e68c8534ae659b348b83d6195898b", func := "lightclient/lightclientlaw01.CodecStrings", spec := "codecStrings", apart := false, narrowed := true }
def CodecStringsUptoSaid : Prop := codecStringsUptoRow.holds Try.pinned (OpenSpec.upto codecStringsSpec)

/-- 'lightclientlaw01.CodecFresh', WHERE WHAT IT READS IS OF BULK AT MOST 1048576: true; the input reads as it did. -/
def codecFreshUptoRow : OpenClaim := { program := "ytbdalbibdkipcaa", sum := "97183c84187ed68685d498e0f889eaddb32e68c8534ae659b348b83d6195898b", func := "lightclient/lightclientlaw01.CodecFresh", spec := "codecFresh", apart := false, narrowed := true }
def CodecFreshUptoSaid : Prop := codecFreshUptoRow.holds Try.pinned (OpenSpec.upto codecFreshSpec)

/-- 'lightclientlaw01.CodecReads', WHERE WHAT IT READS IS OF BULK AT MOST 1048576: true; the input reads as it did. -/
def codecReadsUptoRow : OpenClaim := { program := "ytbdalbibdkipcaa", sum := "97183c84187ed68685d498e0f889eaddb32e68c8534ae659b348b83d6195898b", func := "lightclient/lightclientlaw01.CodecReads", spec := "codecReads", apart := false, narrowed := true }
def CodecReadsUptoSaid : Prop := codecReadsUptoRow.holds Try.pinned (OpenSpec.upto codecReadsSpec)

/-- 'lightclientlaw01.CodecHex', WHERE WHAT IT READS IS OF BULK AT MOST 1048576: true; the input reads as it did. -/
def codecHexUptoRow : OpenClaim := { program := "ytbdalbibdkipcaa", sum := "97183c84187ed68685d498e0f889eaddb32e68c8534ae659b348b83d6195898b", func := "lightclient/lightclientlaw01.CodecHex", spec := "codecHex", apart := false, narrowed := true }
def CodecHexUptoSaid : Prop := codecHexUptoRow.holds Try.pinned (OpenSpec.upto codecHexSpec)

/-- 'lightclientlaw01.CodecLimits', WHERE WHAT IT READS IS OF BULK AT MOST 1048576: true; the input reads as it did. -/
def codecLimitsUptoRow : OpenClaim := { program := "ytbdalbibdkipcaa", sum := "97183c84187ed68685d498e0f889eaddb32e68c8534ae659b348b83d6195898b", func := "lightclient/lightclientlaw01.CodecLimits", spec := "codecLimits", apart := false, narrowed := true }
def CodecLimitsUptoSaid : Prop := codecLimitsUptoRow.holds Try.pinned (OpenSpec.upto codecLimitsSpec)

/-- 'lightclientlaw01.CodecBack', WHERE WHAT IT READS IS OF BULK AT MOST 1048576: true; the input reads as it did. -/
def codecBackUptoRow : OpenClaim := { program := "ytbdalbibdkipcaa", sum := "97183c84187ed68685d498e0f889eaddb32e68c8534ae659b348b83d6195898b", func := "lightclient/lightclientlaw01.CodecBack", spec := "codecBack", apart := false, narrowed := true }
def CodecBackUptoSaid : Prop := codecBackUptoRow.holds Try.pinned (OpenSpec.upto codecBackSpec)

end Rows
end Go.Proofs.Ytbdalbibdkipcaa
