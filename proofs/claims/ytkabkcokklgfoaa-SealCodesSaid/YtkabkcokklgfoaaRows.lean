/-
  No cell of these rows narrows 'for every input' (looked for: loops, veiled, ifaces, maps, wideKeys, modest, calm, conditions, laid).
  DERIVED. THE GIVEN ROWS OF THIS SEAT. 2 by the template 'for every input the law returns true; each argument reads behind the call as it read before'; 0 by the template 'total and deterministic' (their statements: YtkabkcokklgfoaaTotals.lean).
  GIVEN WITH THE SEED: the statements are not yours to turn. If you find one false, say at which input.
  Laid BY PROGRAM, IN A SANDBOX (cutbox-rows.mjs): the forced cells as the released guide's own fill.sh prints them over the translation ba354ecc4ccc84d8… (all of the seat's roots in one cut). By AI agents, Wed Nov 11 2026. No macro, syntax, notation, axiom, sorry.
-/
import Derived.Test.YtkabkcokklgfoaaChecked
import GoSem.Claim
import GoSem.ClaimJoined
import GoSem.ClaimMapViews
import Derived.JoinedTies
import Derived.KernelRfl
namespace Go.Proofs.Ytkabkcokklgfoaa
/- THE CELL 'sum', in the pinned program and in every row, IS THE sha256 OF THE DUMP (.gsa) THAT YtkabkcokklgfoaaProg.lean LOADS. Nothing in Lean hashes anything: it is a label: what it is worth is what the hold of that sum in a sandbox is worth. -/
noncomputable def Try.pinned : Pinned := { name := "ytkabkcokklgfoaa", sum := "ba354ecc4ccc84d86c7b6a5ef9d142ba08a579a180115e7f6c19936f7c2ddd8e", checked := Try.checked }
namespace Rows
def none {H : Type} : Left H := { results := [], args := [] }

/-- 'sederuntlaw34.SealDecode': WHATEVER THE INPUT: true; the input reads as it did. -/
def sealDecodeSpec : ChangeSpec := { name := "sealDecode", fn := fun _ => fun
  | [d] => { results := [.lit (.bool true)], args := [d] }
  | _ => none }
def sealDecodeRow : OpenClaim := { program := "ytkabkcokklgfoaa", sum := "ba354ecc4ccc84d86c7b6a5ef9d142ba08a579a180115e7f6c19936f7c2ddd8e", func := "sederunt/sederuntlaw34.SealDecode", spec := "sealDecode", inPlace := ["internal/abi.NoEscape"], unfollowed := true, recurses := true, apart := false }
def SealDecodeSaid : Prop := sealDecodeRow.holds Try.pinned (OpenSpec.ofChange sealDecodeSpec)

/-- ITS FALSE NEIGHBOUR: 'it returns false'. Refute it at one input. -/
def sealDecodeWrong : ChangeSpec := { name := "sealDecode", fn := fun _ => fun
  | [d] => { results := [.lit (.bool false)], args := [d] }
  | _ => none }
def SealDecodeWrongFalsely : Prop := sealDecodeRow.holds Try.pinned (OpenSpec.ofChange sealDecodeWrong)

/-- 'sederuntlaw34.SealCodes': WHATEVER THE INPUT: true; the input reads as it did. -/
def sealCodesSpec : ChangeSpec := { name := "sealCodes", fn := fun _ => fun
  | [d] => { results := [.lit (.bool true)], args := [d] }
  | _ => none }
def sealCodesRow : OpenClaim := { program := "ytkabkcokklgfoaa", sum := "ba354ecc4ccc84d86c7b6a5ef9d142ba08a579a180115e7f6c19936f7c2ddd8e", func := "sederunt/sederuntlaw34.SealCodes", spec := "sealCodes", inPlace := ["internal/abi.NoEscape"], unfollowed := true, recurses := true, apart := false }
def SealCodesSaid : Prop := sealCodesRow.holds Try.pinned (OpenSpec.ofChange sealCodesSpec)

/-- ITS FALSE NEIGHBOUR: 'it returns false'. Refute it at one input. -/
def sealCodesWrong : ChangeSpec := { name := "sealCodes", fn := fun _ => fun
  | [d] => { results := [.lit (.bool false)], args := [d] }
  | _ => none }
def SealCodesWrongFalsely : Prop := sealCodesRow.holds Try.pinned (OpenSpec.ofChange sealCodesWrong)

/- THE SECOND FORM. 'bulk': how many values and letters a reading holds, each counted each time it is reached (what is shared counts as often as it is met; a slice's spare places count too). A statement '..UptoSaid' is the law's where the arguments, and the package variables that the reading takes, are together of bulk at most 1048576: NARROWER than '..Said'. Prove '..Said' where nothing that the law and all that it calls make is longer than what came in: it says more and counts as full. Else prove '..UptoSaid'. A law counts once. -/
mutual
def uptoBulk {H : Type} : DataW H → Nat
  | .lit (.string bytes) => bytes.length + 1
  | .lit _ => 1
  | .nil => 1
  | .ptr d => uptoBulk d + 1
  | .slice elems spare => uptoBulkAll elems + uptoBulkAll spare + 1
  | .agg parts => uptoBulkAll parts + 1
  | .iface _ d => uptoBulk d + 1
  | .map entries => uptoBulkEntries entries + 1
  | .held _ => 1
def uptoBulkAll {H : Type} : List (DataW H) → Nat
  | [] => 0
  | d :: r => uptoBulk d + uptoBulkAll r
def uptoBulkEntries {H : Type} : List (Lit × DataW H) → Nat
  | [] => 0
  | x :: r => uptoBulkEntry x + uptoBulkEntries r
def uptoBulkEntry {H : Type} : Lit × DataW H → Nat
  | (.string bytes, d) => bytes.length + uptoBulk d + 1
  | (_, d) => uptoBulk d + 1
 end
def uptoSmall : (H : Type) → List (DataW H) → Bool := fun _ ds => decide (uptoBulkAll ds ≤ 1048576)
def OpenSpec.upto (s : _root_.Go.ChangeSpec) : _root_.Go.OpenSpec := { _root_.Go.OpenSpec.ofChange s with cond := some uptoSmall }

/-- 'sederuntlaw34.SealDecode', WHERE WHAT IT READS IS OF BULK AT MOST 1048576: true; the input reads as it did. -/
def sealDecodeUptoRow : OpenClaim := { program := "ytkabkcokklgfoaa", sum := "ba354ecc4ccc84d86c7b6a5ef9d142ba08a579a180115e7f6c19936f7c2ddd8e", func := "sederunt/sederuntlaw34.SealDecode", spec := "sealDecode", inPlace := ["internal/abi.NoEscape"], unfollowed := true, recurses := true, apart := false, narrowed := true }
def SealDecodeUptoSaid : Prop := sealDecodeUptoRow.holds Try.pinned (OpenSpec.upto sealDecodeSpec)

/-- 'sederuntlaw34.SealCodes', WHERE WHAT IT READS IS OF BULK AT MOST 1048576: true; the input reads as it did. -/
def sealCodesUptoRow : OpenClaim := { program := "ytkabkcokklgfoaa", sum := "ba354ecc4ccc84d86c7b6a5ef9d142ba08a579a180115e7f6c19936f7c2ddd8e", func := "sederunt/sederuntlaw34.SealCodes", spec := "sealCodes", inPlace := ["internal/abi.NoEscape"], unfollowed := true, recurses := true, apart := false, narrowed := true }
def SealCodesUptoSaid : Prop := sealCodesUptoRow.holds Try.pinned (OpenSpec.upto sealCodesSpec)

end Rows
end Go.Proofs.Ytkabkcokklgfoaa
