/-
  No cell of these rows narrows 'for every input' (looked for: loops, veiled, ifaces, maps, wideKeys, modest, calm, conditions, laid).
  DERIVED. THE GIVEN ROWS OF THIS SEAT. 4 by the template 'for every input the law returns true; each argument reads behind the call as it read before'; 0 by the template 'total and deterministic' (their statements: YtkhofblbifbidaaTotals.lean).
  GIVEN WITH THE SEED: the statements are not yours to turn. If you find one false, say at which input.
  Laid BY PROGRAM, IN A SANDBOX (cutbox-rows.mjs): the forced cells as the released guide's own fill.sh prints them over the translation 375dbeeb1f3fb49e… (all of the seat's roots in one cut). By AI agents, Wed Nov 11 2026. No macro, syntax, notation, axiom, sorry.
-/
import Derived.Test.YtkhofblbifbidaaChecked
import GoSem.Claim
import GoSem.ClaimJoined
import GoSem.ClaimMapViews
import Derived.JoinedTies
import Derived.KernelRfl
namespace Go.Proofs.Ytkhofblbifbidaa
/- THE CELL 'sum', in the pinned program and in every row, IS THE sha256 OF THE DUMP (.gsa) THAT YtkhofblbifbidaaProg.lean LOADS. Nothing in Lean hashes anything: it is a label: what it is worth is what the hold of that sum in a sandbox is worth. -/
noncomputable def Try.pinned : Pinned := { name := "ytkhofblbifbidaa", sum := "375dbeeb1f3fb49ebe38deb0caa758d39b4015f49bbf9e1025365359d774367f", checked := Try.checked }
namespace Rows
def none {H : Type} : Left H := { results := [], args := [] }

/-- 'sederuntlaw04.DigestCrc': WHATEVER THE INPUT: true; the input reads as it did. -/
def digestCrcSpec : ChangeSpec := { name := "digestCrc", fn := fun _ => fun
  | [d] => { results := [.lit (.bool true)], args := [d] }
  | _ => none }
def digestCrcRow : OpenClaim := { program := "ytkhofblbifbidaa", sum := "375dbeeb1f3fb49ebe38deb0caa758d39b4015f49bbf9e1025365359d774367f", func := "sederunt/sederuntlaw04.DigestCrc", spec := "digestCrc", apart := false }
def DigestCrcSaid : Prop := digestCrcRow.holds Try.pinned (OpenSpec.ofChange digestCrcSpec)

/-- ITS FALSE NEIGHBOUR: 'it returns false'. Refute it at one input. -/
def digestCrcWrong : ChangeSpec := { name := "digestCrc", fn := fun _ => fun
  | [d] => { results := [.lit (.bool false)], args := [d] }
  | _ => none }
def DigestCrcWrongFalsely : Prop := digestCrcRow.holds Try.pinned (OpenSpec.ofChange digestCrcWrong)

/-- 'sederuntlaw04.DigestBurst': WHATEVER THE INPUT: true; the input reads as it did. -/
def digestBurstSpec : ChangeSpec := { name := "digestBurst", fn := fun _ => fun
  | [d1, d2, d3] => { results := [.lit (.bool true)], args := [d1, d2, d3] }
  | _ => none }
def digestBurstRow : OpenClaim := { program := "ytkhofblbifbidaa", sum := "375dbeeb1f3fb49ebe38deb0caa758d39b4015f49bbf9e1025365359d774367f", func := "sederunt/sederuntlaw04.DigestBurst", spec := "digestBurst", apart := false }
def DigestBurstSaid : Prop := digestBurstRow.holds Try.pinned (OpenSpec.ofChange digestBurstSpec)

/-- ITS FALSE NEIGHBOUR: 'it returns false'. Refute it at one input. -/
def digestBurstWrong : ChangeSpec := { name := "digestBurst", fn := fun _ => fun
  | [d1, d2, d3] => { results := [.lit (.bool false)], args := [d1, d2, d3] }
  | _ => none }
def DigestBurstWrongFalsely : Prop := digestBurstRow.holds Try.pinned (OpenSpec.ofChange digestBurstWrong)

/-- 'sederuntlaw04.DigestXor': WHATEVER THE INPUT: true; the input reads as it did. -/
def digestXorSpec : ChangeSpec := { name := "digestXor", fn := fun _ => fun
  | [d1, d2, d3] => { results := [.lit (.bool true)], args := [d1, d2, d3] }
  | _ => none }
def digestXorRow : OpenClaim := { program := "ytkhofblbifbidaa", sum := "375dbeeb1f3fb49ebe38deb0caa758d39b4015f49bbf9e1025365359d774367f", func := "sederunt/sederuntlaw04.DigestXor", spec := "digestXor", apart := false }
def DigestXorSaid : Prop := digestXorRow.holds Try.pinned (OpenSpec.ofChange digestXorSpec)

/-- ITS FALSE NEIGHBOUR: 'it returns false'. Refute it at one input. -/
def digestXorWrong : ChangeSpec := { name := "digestXor", fn := fun _ => fun
  | [d1, d2, d3] => { results := [.lit (.bool false)], args := [d1, d2, d3] }
  | _ => none }
def DigestXorWrongFalsely : Prop := digestXorRow.holds Try.pinned (OpenSpec.ofChange digestXorWrong)

/-- 'sederuntlaw04.DigestApart': WHATEVER THE INPUT: true; the input reads as it did. -/
def digestApartSpec : ChangeSpec := { name := "digestApart", fn := fun _ => fun
  | [d] => { results := [.lit (.bool true)], args := [d] }
  | _ => none }
def digestApartRow : OpenClaim := { program := "ytkhofblbifbidaa", sum := "375dbeeb1f3fb49ebe38deb0caa758d39b4015f49bbf9e1025365359d774367f", func := "sederunt/sederuntlaw04.DigestApart", spec := "digestApart", apart := false }
def DigestApartSaid : Prop := digestApartRow.holds Try.pinned (OpenSpec.ofChange digestApartSpec)

/-- ITS FALSE NEIGHBOUR: 'it returns false'. Refute it at one input. -/
def digestApartWrong : ChangeSpec := { name := "digestApart", fn := fun _ => fun
  | [d] => { results := [.lit (.bool false)], args := [d] }
  | _ => none }
def DigestApartWrongFalsely : Prop := digestApartRow.holds Try.pinned (OpenSpec.ofChange digestApartWrong)

/- THE SECOND FORM. 'bulk': how many values and letters a reading holds, each counted each time it is reached (what is shared counts as often as it is met; a slice's spare places count too). A statement '..UptoSaid' is the law's where the arguments, and the package variables that the reading takes, are together of bulk at most 1048576: NARROWER than '..Said'. Prove '..Said' where nothing that the law and all that it calls make is longer than what came in: it says more and counts as full. Else prove '..UptoSaid'. A law counts once. -/
mutual
def uptoBulk {H : Type} : DataW H → Nat
  | .lit (.string bytes) => bytes.length + 1
  | .lit _ => 1
  | .nil => 1
  | .ptr d => uptoBulk d + 1
  | .slice elems spare => uptoBulkAll elems + uptoBulkAll spare + 1
  | .agg parts => uptoBulkAll parts + 1
  | .iface _ d => uptoBulk d + 1
  | .map entries => uptoBulkEntries entries + 1
  | .held _ => 1
def uptoBulkAll {H : Type} : List (DataW H) → Nat
  | [] => 0
  | d :: r => uptoBulk d + uptoBulkAll r
def uptoBulkEntries {H : Type} : List (Lit × DataW H) → Nat
  | [] => 0
  | x :: r => uptoBulkEntry x + uptoBulkEntries r
def uptoBulkEntry {H : Type} : Lit × DataW H → Nat
  | (.string bytes, d) => bytes.length + uptoBulk d + 1
  | (_, d) => uptoBulk d + 1
 end
def uptoSmall : (H : Type) → List (DataW H) → Bool := fun _ ds => decide (uptoBulkAll ds ≤ 1048576)
def OpenSpec.upto (s : _root_.Go.ChangeSpec) : _root_.Go.OpenSpec := { _root_.Go.OpenSpec.ofChange s with cond := some uptoSmall }

/-- 'sederuntlaw04.DigestCrc', WHERE WHAT IT READS IS OF BULK AT MOST 1048576: true; the input reads as it did. -/
def digestCrcUptoRow : OpenClaim := { program := "ytkhofblbifbidaa", sum := "375dbeeb1f3fb49ebe38deb0caa758d39b4015f49bbf9e1025365359d774367f", func := "sederunt/sederuntlaw04.DigestCrc", spec := "digestCrc", apart := false, narrowed := true }
def DigestCrcUptoSaid : Prop := digestCrcUptoRow.holds Try.pinned (OpenSpec.upto digestCrcSpec)

/-- 'sederuntlaw04.DigestBurst', WHERE WHAT IT READS IS OF BULK AT MOST 1048576: true; the input reads as it did. -/
def digestBurstUptoRow : OpenClaim := { program := "ytkhofblbifbidaa", sum := "375dbeeb1f3fb49ebe38deb0caa758d39b4015f49bbf9e1025365359d774367f", func := "sederunt/sederuntlaw04.DigestBurst", spec := "digestBurst", apart := false, narrowed := true }
def DigestBurstUptoSaid : Prop := digestBurstUptoRow.holds Try.pinned (OpenSpec.upto digestBurstSpec)

/-- 'sederuntlaw04.DigestXor', WHERE WHAT IT READS IS OF BULK AT MOST 1048576: true; the input reads as it did. -/
def digestXorUptoRow : OpenClaim := { program := "ytkhofblbifbidaa", sum := "375dbeeb1f3fb49ebe38deb0caa758d39b4015f49bbf9e1025365359d774367f", func := "sederunt/sederuntlaw04.DigestXor", spec := "digestXor", apart := false, narrowed := true }
def DigestXorUptoSaid : Prop := digestXorUptoRow.holds Try.pinned (OpenSpec.upto digestXorSpec)

/-- 'sederuntlaw04.DigestApart', WHERE WHAT IT READS IS OF BULK AT MOST 1048576: true; the input reads as it did. -/
def digestApartUptoRow : OpenClaim := { program := "ytkhofblbifbidaa", sum := "375dbeeb1f3fb49ebe38deb0caa758d39b4015f49bbf9e1025365359d774367f", func := "sederunt/sederuntlaw04.DigestApart", spec := "digestApart", apart := false, narrowed := true }
def DigestApartUptoSaid : Prop := digestApartUptoRow.holds Try.pinned (OpenSpec.upto digestApartSpec)

end Rows
end Go.Proofs.Ytkhofblbifbidaa
