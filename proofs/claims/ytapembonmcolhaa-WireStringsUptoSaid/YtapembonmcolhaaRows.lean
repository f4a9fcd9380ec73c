/-
  No cell of these rows narrows 'for every input' (looked for: loops, veiled, ifaces, maps, wideKeys, modest, calm, conditions, laid).
  DERIVED. THE GIVEN ROWS OF THIS SEAT. 9 by the template 'for every input the law returns true; each argument reads behind the call as it read before'; 0 by the template 'total and deterministic' (their statements: YtapembonmcolhaaTotals.lean).
  GIVEN WITH THE SEED: the statements are not yours to turn. If you find one false, say at which input.
  Laid BY PROGRAM, IN A SANDBOX (cutbox-rows.mjs): the forced cells as the released guide's own fill.sh prints them over the translation 9231b580fb09b5de… (all of the seat's roots in one cut). By AI agents, Wed Nov 11 2026. No macro, syntax, notation, axiom, sorry.
-/
import Derived.Test.YtapembonmcolhaaChecked
import GoSem.Claim
import GoSem.ClaimJoined
import GoSem.ClaimMapViews
import Derived.JoinedTies
import Derived.KernelRfl
namespace Go.Proofs.Ytapembonmcolhaa
/- THE CELL 'sum', in the pinned program and in every row, IS THE sha256 OF THE DUMP (.gsa) THAT YtapembonmcolhaaProg.lean LOADS. Nothing in Lean hashes anything: it is a label: what it is worth is what the hold of that sum in a sandbox is worth. -/
noncomputable def Try.pinned : Pinned := { name := "ytapembonmcolhaa", sum := "9231b580fb09b5de1fdc167b58a9ffe49079f2754b13dda4373bad425e59b499", checked := Try.checked }
namespace Rows
def none {H : Type} : Left H := { results := [], args := [] }

/-- 'sederuntlaw03.WirePut': WHATEVER THE INPUT: true; the input reads as it did. -/
def wirePutSpec : ChangeSpec := { name := "wirePut", fn := fun _ => fun
  | [d1, d2] => { results := [.lit (.bool true)], args := [d1, d2] }
  | _ => none }
def wirePutRow : OpenClaim := { program := "ytapembonmcolhaa", sum := "9231b580fb09b5de1fdc167b58a9ffe49079f2754b13dda4373bad425e59b499", func := "sederunt/sederuntlaw03.WirePut", spec := "wirePut", inPlace := ["internal/abi.NoEscape"], unfollowed := true, recurses := true, apart := false }
def WirePutSaid : Prop := wirePutRow.holds Try.pinned (OpenSpec.ofChange wirePutSpec)

/-- ITS FALSE NEIGHBOUR: 'it returns false'. Refute it at one input. -/
def wirePutWrong : ChangeSpec := { name := "wirePut", fn := fun _ => fun
  | [d1, d2] => { results := [.lit (.bool false)], args := [d1, d2] }
  | _ => none }
def WirePutWrongFalsely : Prop := wirePutRow.holds Try.pinned (OpenSpec.ofChange wirePutWrong)

/-- 'sederuntlaw03.WireGet': WHATEVER THE INPUT: true; the input reads as it did. -/
def wireGetSpec : ChangeSpec := { name := "wireGet", fn := fun _ => fun
  | [d] => { results := [.lit (.bool true)], args := [d] }
  | _ => none }
def wireGetRow : OpenClaim := { program := "ytapembonmcolhaa", sum := "9231b580fb09b5de1fdc167b58a9ffe49079f2754b13dda4373bad425e59b499", func := "sederunt/sederuntlaw03.WireGet", spec := "wireGet", inPlace := ["internal/abi.NoEscape"], unfollowed := true, recurses := true, apart := false }
def WireGetSaid : Prop := wireGetRow.holds Try.pinned (OpenSpec.ofChange wireGetSpec)

/-- ITS FALSE NEIGHBOUR: 'it returns false'. Refute it at one input. -/
def wireGetWrong : ChangeSpec := { name := "wireGet", fn := fun _ => fun
  | [d] => { results := [.lit (.bool false)], args := [d] }
  | _ => none }
def WireGetWrongFalsely : Prop := wireGetRow.holds Try.pinned (OpenSpec.ofChange wireGetWrong)

/-- 'sederuntlaw03.WireGetString': WHATEVER THE INPUT: true; the input reads as it did. -/
def wireGetStringSpec : ChangeSpec := { name := "wireGetString", fn := fun _ => fun
  | [d] => { results := [.lit (.bool true)], args := [d] }
  | _ => none }
def wireGetStringRow : OpenClaim := { program := "ytapembonmcolhaa", sum := "9231b580fb09b5de1fdc167b58a9ffe49079f2754b13dda4373bad425e59b499", func := "sederunt/sederuntlaw03.WireGetString", spec := "wireGetString", inPlace := ["internal/abi.NoEscape"], unfollowed := true, recurses := true, apart := false }
def WireGetStringSaid : Prop := wireGetStringRow.holds Try.pinned (OpenSpec.ofChange wireGetStringSpec)

/-- ITS FALSE NEIGHBOUR: 'it returns false'. Refute it at one input. -/
def wireGetStringWrong : ChangeSpec := { name := "wireGetString", fn := fun _ => fun
  | [d] => { results := [.lit (.bool false)], args := [d] }
  | _ => none }
def WireGetStringWrongFalsely : Prop := wireGetStringRow.holds Try.pinned (OpenSpec.ofChange wireGetStringWrong)

/-- 'sederuntlaw03.WirePrefix': WHATEVER THE INPUT: true; the input reads as it did. -/
def wirePrefixSpec : ChangeSpec := { name := "wirePrefix", fn := fun _ => fun
  | [d1, d2] => { results := [.lit (.bool true)], args := [d1, d2] }
  | _ => none }
def wirePrefixRow : OpenClaim := { program := "ytapembonmcolhaa", sum := "9231b580fb09b5de1fdc167b58a9ffe49079f2754b13dda4373bad425e59b499", func := "sederunt/sederuntlaw03.WirePrefix", spec := "wirePrefix", inPlace := ["internal/abi.NoEscape"], unfollowed := true, recurses := true, apart := false }
def WirePrefixSaid : Prop := wirePrefixRow.holds Try.pinned (OpenSpec.ofChange wirePrefixSpec)

/-- ITS FALSE NEIGHBOUR: 'it returns false'. Refute it at one input. -/
def wirePrefixWrong : ChangeSpec := { name := "wirePrefix", fn := fun _ => fun
  | [d1, d2] => { results := [.lit (.bool false)], args := [d1, d2] }
  | _ => none }
def WirePrefixWrongFalsely : Prop := wirePrefixRow.holds Try.pinned (OpenSpec.ofChange wirePrefixWrong)

/-- 'sederuntlaw03.WireGetList': WHATEVER THE INPUT: true; the input reads as it did. -/
def wireGetListSpec : ChangeSpec := { name := "wireGetList", fn := fun _ => fun
  | [d] => { results := [.lit (.bool true)], args := [d] }
  | _ => none }
def wireGetListRow : OpenClaim := { program := "ytapembonmcolhaa", sum := "9231b580fb09b5de1fdc167b58a9ffe49079f2754b13dda4373bad425e59b499", func := "sederunt/sederuntlaw03.WireGetList", spec := "wireGetList", inPlace := ["internal/abi.NoEscape"], unfollowed := true, recurses := true, apart := false }
def WireGetListSaid : Prop := wireGetListRow.holds Try.pinned (OpenSpec.ofChange wireGetListSpec)

/-- ITS FALSE NEIGHBOUR: 'it returns false'. Refute it at one input. -/
def wireGetListWrong : ChangeSpec := { name := "wireGetList", fn := fun _ => fun
  | [d] => { results := [.lit (.bool false)], args := [d] }
  | _ => none }
def WireGetListWrongFalsely : Prop := wireGetListRow.holds Try.pinned (OpenSpec.ofChange wireGetListWrong)

/-- 'sederuntlaw03.WireGetInts': WHATEVER THE INPUT: true; the input reads as it did. -/
def wireGetIntsSpec : ChangeSpec := { name := "wireGetInts", fn := fun _ => fun
  | [d] => { results := [.lit (.bool true)], args := [d] }
  | _ => none }
def wireGetIntsRow : OpenClaim := { program := "ytapembonmcolhaa", sum := "9231b580fb09b5de1fdc167b58a9ffe49079f2754b13dda4373bad425e59b499", func := "sederunt/sederuntlaw03.WireGetInts", spec := "wireGetInts", inPlace := ["internal/abi.NoEscape"], unfollowed := true, recurses := true, apart := false }
def WireGetIntsSaid : Prop := wireGetIntsRow.holds Try.pinned (OpenSpec.ofChange wireGetIntsSpec)

/-- ITS FALSE NEIGHBOUR: 'it returns false'. Refute it at one input. -/
def wireGetIntsWrong : ChangeSpec := { name := "wireGetInts", fn := fun _ => fun
  | [d] => { results := [.lit (.bool false)], args := [d] }
  | _ => none }
def WireGetIntsWrongFalsely : Prop := wireGetIntsRow.holds Try.pinned (OpenSpec.ofChange wireGetIntsWrong)

/-- 'sederuntlaw03.WireReader': WHATEVER THE INPUT: true; the input reads as it did. -/
def wireReaderSpec : ChangeSpec := { name := "wireReader", fn := fun _ => fun
  | [d1, d2] => { results := [.lit (.bool true)], args := [d1, d2] }
  | _ => none }
def wireReaderRow : OpenClaim := { program := "ytapembonmcolhaa", sum := "9231b580fb09b5de1fdc167b58a9ffe49079f2754b13dda4373bad425e59b499", func := "sederunt/sederuntlaw03.WireReader", spec := "wireReader", inPlace := ["internal/abi.NoEscape"], unfollowed := true, recurses := true, apart := false }
def WireReaderSaid : Prop := wireReaderRow.holds Try.pinned (OpenSpec.ofChange wireReaderSpec)

/-- ITS FALSE NEIGHBOUR: 'it returns false'. Refute it at one input. -/
def wireReaderWrong : ChangeSpec := { name := "wireReader", fn := fun _ => fun
  | [d1, d2] => { results := [.lit (.bool false)], args := [d1, d2] }
  | _ => none }
def WireReaderWrongFalsely : Prop := wireReaderRow.holds Try.pinned (OpenSpec.ofChange wireReaderWrong)

/-- 'sederuntlaw03.WireStrings': WHATEVER THE INPUT: true; the input reads as it did. -/
def wireStringsSpec : ChangeSpec := { name := "wireStrings", fn := fun _ => fun
  | [d1, d2] => { results := [.lit (.bool true)], args := [d1, d2] }
  | _ => none }
def wireStringsRow : OpenClaim := { program := "ytapembonmcolhaa", sum := "9231b580fb09b5de1fdc167b58a9ffe49079f2754b13dda4373bad425e59b499", func := "sederunt/sederuntlaw03.WireStrings", spec := "wireStrings", inPlace := ["internal/abi.NoEscape"], unfollowed := true, recurses := true, apart := false }
def WireStringsSaid : Prop := wireStringsRow.holds Try.pinned (OpenSpec.ofChange wireStringsSpec)

/-- ITS FALSE NEIGHBOUR: 'it returns false'. Refute it at one input. -/
def wireStringsWrong : ChangeSpec := { name := "wireStrings", fn := fun _ => fun
  | [d1, d2] => { results := [.lit (.bool false)], args := [d1, d2] }
  | _ => none }
def WireStringsWrongFalsely : Prop := wireStringsRow.holds Try.pinned (OpenSpec.ofChange wireStringsWrong)

/-- 'sederuntlaw03.WireInts': WHATEVER THE INPUT: true; the input reads as it did. -/
def wireIntsSpec : ChangeSpec := { name := "wireInts", fn := fun _ => fun
  | [d1, d2] => { results := [.lit (.bool true)], args := [d1, d2] }
  | _ => none }
def wireIntsRow : OpenClaim := { program := "ytapembonmcolhaa", sum := "9231b580fb09b5de1fdc167b58a9ffe49079f2754b13dda4373bad425e59b499", func := "sederunt/sederuntlaw03.WireInts", spec := "wireInts", inPlace := ["internal/abi.NoEscape"], unfollowed := true, recurses := true, apart := false }
def WireIntsSaid : Prop := wireIntsRow.holds Try.pinned (OpenSpec.ofChange wireIntsSpec)

/-- ITS FALSE NEIGHBOUR: 'it returns false'. Refute it at one input. -/
def wireIntsWrong : ChangeSpec := { name := "wireInts", fn := fun _ => fun
  | [d1, d2] => { results := [.lit (.bool false)], args := [d1, d2] }
  | _ => none }
def WireIntsWrongFalsely : Prop := wireIntsRow.holds Try.pinned (OpenSpec.ofChange wireIntsWrong)

/- THE SECOND FORM. 'bulk': how many values and letters a reading holds, each counted each time it is reached (what is shared counts as often as it is met; a slice's spare places count too). A statement '..UptoSaid' is the law's where the arguments, and the package variables that the reading takes, are together of bulk at most 1048576: NARROWER than '..Said'. Prove '..Said' where nothing that the law and all that it calls make is longer than what came in: it says more and counts as full. Else prove '..UptoSaid'. A law counts once. -/
mutual
def uptoBulk {H : Type} : DataW H → Nat
  | .lit (.string bytes) => bytes.length + 1
  | .lit _ => 1
  | .nil => 1
  | .ptr d => uptoBulk d + 1
  | .slice elems spare => uptoBulkAll elems + uptoBulkAll spare + 1
  | .agg parts => uptoBulkAll parts + 1
  | .iface _ d => uptoBulk d + 1
  | .map entries => uptoBulkEntries entries + 1
  | .held _ => 1
def uptoBulkAll {H : Type} : List (DataW H) → Nat
  | [] => 0
  | d :: r => uptoBulk d + uptoBulkAll r
def uptoBulkEntries {H : Type} : List (Lit × DataW H) → Nat
  | [] => 0
  | x :: r => uptoBulkEntry x + uptoBulkEntries r
def uptoBulkEntry {H : Type} : Lit × DataW H → Nat
  | (.string bytes, d) => bytes.length + uptoBulk d + 1
  | (_, d) => uptoBulk d + 1
 end
def uptoSmall : (H : Type) → List (DataW H) → Bool := fun _ ds => decide (uptoBulkAll ds ≤ 1048576)
def OpenSpec.upto (s : _root_.Go.ChangeSpec) : _root_.Go.OpenSpec := { _root_.Go.OpenSpec.ofChange s with cond := some uptoSmall }

/-- 'sederuntlaw03.WirePut', WHERE WHAT IT READS IS OF BULK AT MOST 1048576: true; the input reads as it did. -/
def wirePutUptoRow : OpenClaim := { program := "ytapembonmcolhaa", sum := "9231b580fb09b5de1fdc167b58a9ffe49079f2754b13dda4373bad425e59b499", func := "sederunt/sederuntlaw03.WirePut", spec := "wirePut", inPlace := ["internal/abi.NoEscape"], unfollowed := true, recurses := true, apart := false, narrowed := true }
def WirePutUptoSaid : Prop := wirePutUptoRow.holds Try.pinned (OpenSpec.upto wirePutSpec)

/-- 'sederuntlaw03.WireGet', WHERE WHAT IT READS IS OF BULK AT MOST 1048576: true; the input reads as it did. -/
def wireGetUptoRow : OpenClaim := { program := "ytapembonmcolhaa", sum := "9231b580fb09b5de1fdc167b58a9ffe49079f2754b13dda4373bad425e59b499", func := "sederunt/sederuntlaw03.WireGet", spec := "wireGet", inPlace := ["internal/abi.NoEscape"], unfollowed := true, recurses := true, apart := false, narrowed := true }
def WireGetUptoSaid : Prop := wireGetUptoRow.holds Try.pinned (OpenSpec.upto wireGetSpec)

/-- 'sederuntlaw03.WireGetString', WHERE WHAT IT READS IS OF BULK AT MOST 1048576: true; the input reads as it did. -/
def wireGetStringUptoRow : OpenClaim := { program := "ytapembonmcolhaa", sum := "9231b580fb09b5de1fdc167b58a9ffe49079f2754b13dda4373bad425e59b499", func := "sederunt/sederuntlaw03.WireGetString", spec := "wireGetString", inPlace := ["internal/abi.NoEscape"], unfollowed := true, recurses := true, apart := false, narrowed := true }
def WireGetStringUptoSaid : Prop := wireGetStringUptoRow.holds Try.pinned (OpenSpec.upto wireGetStringSpec)

/-- 'sederuntlaw03.WirePrefix', WHERE WHAT IT READS IS OF BULK AT MOST 1048576: true; the input reads as it did. -/
def wirePrefixUptoRow : OpenClaim := { program := "ytapembonmcolhaa", sum := "9231b580fb09b5de1fdc167b58a9ffe49079f2754b13dda4373bad425e59b499", func := "sederunt/sederuntlaw03.WirePrefix", spec := "wirePrefix", inPlace := ["internal/abi.NoEscape"], unfollowed := true, recurses := true, apart := false, narrowed := true }
def WirePrefixUptoSaid : Prop := wirePrefixUptoRow.holds Try.pinned (OpenSpec.upto wirePrefixSpec)

/-- 'sederuntlaw03.WireGetList', WHERE WHAT IT READS IS OF BULK AT MOST 1048576: true; the input reads as it did. -/
def wireGetListUptoRow : OpenClaim := { program := "ytapembonmcolhaa", sum := "9231b580fb09b5de1fdc167b58a9ffe49079f2754b13dda4373bad425e59b499", func := "sederunt/sederuntlaw03.WireGetList", spec := "wireGetList", inPlace := ["internal/abi.NoEscape"], unfollowed := true, recurses := true, apart := false, narrowed := true }
def WireGetListUptoSaid : Prop := wireGetListUptoRow.holds Try.pinned (OpenSpec.upto wireGetListSpec)

/-- 'sederuntlaw03.WireGetInts', WHERE WHAT IT READS IS OF BULK AT MOST 1048576: true; the input reads as it did. -/
def wireGetIntsUptoRow : OpenClaim := { program := "ytapembonmcolhaa", sum := "9231b580fb09b5de1fdc167b58a9ffe49079f2754b13dda4373bad425e59b499", func := "sederunt/sederuntlaw03.WireGetInts", spec := "wireGetInts", inPlace := ["internal/abi.NoEscape"], unfollowed := true, recurses := true, apart := false, narrowed := true }
def WireGetIntsUptoSaid : Prop := wireGetIntsUptoRow.holds Try.pinned (OpenSpec.upto wireGetIntsSpec)

/-- 'sederuntlaw03.WireReader', WHERE WHAT IT READS IS OF BULK AT MOST 1048576: true; the input reads as it did. -/
def wireReaderUptoRow : OpenClaim := { program := "ytapembonmcolhaa", sum := "9231b580fb09b5de1fdc167b58a9ffe49079f2754b13dda4373bad425e59b499", func := "sederunt/sederuntlaw03.WireReader", spec := "wireReader", inPlace := ["internal/abi.NoEscape"], unfollowed := true, recurses := true, apart := false, narrowed := true }
def WireReaderUptoSaid : Prop := wireReaderUptoRow.holds Try.pinned (OpenSpec.upto wireReaderSpec)

/-- 'sederuntlaw03.WireStrings', WHERE WHAT IT READS IS OF BULK AT MOST 1048576: true; the input reads as it did. -/
def wireStringsUptoRow : OpenClaim := { program := "ytapembonmcolhaa", sum := "9231b580fb09b5de1fdc167b58a9ffe49079f2754b13dda4373bad425e59b499", func := "sederunt/sederuntlaw03.WireStrings", spec := "wireStrings", inPlace := ["internal/abi.NoEscape"], unfollowed := true, recurses := true, apart := false, narrowed := true }
def WireStringsUptoSaid : Prop := wireStringsUptoRow.holds Try.pinned (OpenSpec.upto wireStringsSpec)

/-- 'sederuntlaw03.WireInts', WHERE WHAT IT READS IS OF BULK AT MOST 1048576: true; the input reads as it did. -/
def wireIntsUptoRow : OpenClaim := { program := "ytapembonmcolhaa", sum := "9231b580fb09b5de1fdc167b58a9ffe49079f2754b13dda4373bad425e59b499", func := "sederunt/sederuntlaw03.WireInts", spec := "wireInts", inPlace := ["internal/abi.NoEscape"], unfollowed := true, recurses := true, apart := false, narrowed := true }
def WireIntsUptoSaid : Prop := wireIntsUptoRow.holds Try.pinned (OpenSpec.upto wireIntsSpec)

end Rows
end Go.Proofs.Ytapembonmcolhaa
