/-
  No cell of these rows narrows 'for every input' (looked for: loops, veiled, ifaces, maps, wideKeys, modest, calm, conditions, laid).
  DERIVED. THE GIVEN ROWS OF THIS SEAT. 9 by the template 'for every input the law returns true; each argument reads behind the call as it read before'; 0 by the template 'total and deterministic' (their statements: YtcjaoiiklfbhoaaTotals.lean).
  GIVEN WITH THE SEED: the statements are not yours to turn. If you find one false, say at which input.
  Laid BY PROGRAM, IN A SANDBOX (cutbox-rows.mjs): the forced cells as the released guide's own fill.sh prints them over the translation 54c644c045fd3a94… (all of the seat's roots in one cut). By AI agents, Wed Nov 11 2026. No macro, syntax, notation, axiom, sorry.
-/
import Derived.Test.YtcjaoiiklfbhoaaChecked
import GoSem.Claim
import GoSem.ClaimJoined
import GoSem.ClaimMapViews
import Derived.JoinedTies
import Derived.KernelRfl
namespace Go.Proofs.Ytcjaoiiklfbhoaa
/- THE CELL 'sum', in the pinned program and in every row, IS THE sha256 OF THE DUMP (.gsa) THAT YtcjaoiiklfbhoaaProg.lean LOADS. Nothing in Lean hashes anything: it is a label: what it is worth is what the hold of that sum in a sandbox is worth. -/
noncomputable def Try.pinned : Pinned := { name := "ytcjaoiiklfbhoaa", sum := "54c644c045fd3a94a22a4474dced7b94db3f34ef68626f1f1b12870aa6376e44", checked := Try.checked }
namespace Rows
def none {H : Type} : Left H := { results := [], args := [] }

/-- 'keystonelaw04.SszBits': WHATEVER THE INPUT: true; the input reads as it did. -/
def sszBitsSpec : ChangeSpec := { name := "sszBits", fn := fun _ => fun
  | [d1, d2, d3] => { results := [.lit (.bool true)], args := [d1, d2, d3] }
  | _ => none }
def sszBitsRow : OpenClaim := { program := "ytcjaoiiklfbhoaa", sum := "54c644c045fd3a94a22a4474dced7b94db3f34ef68626f1f1b12870aa6376e44", func := "keystone/keystonelaw04.SszBits", spec := "sszBits", recurses := true, apart := false }
def SszBitsSaid : Prop := sszBitsRow.holds Try.pinned (OpenSpec.ofChange sszBitsSpec)

/-- ITS FALSE NEIGHBOUR: 'it returns false'. Refute it at one input. -/
def sszBitsWrong : ChangeSpec := { name := "sszBits", fn := fun _ => fun
  | [d1, d2, d3] => { results := [.lit (.bool false)], args := [d1, d2, d3] }
  | _ => none }
def SszBitsWrongFalsely : Prop := sszBitsRow.holds Try.pinned (OpenSpec.ofChange sszBitsWrong)

/-- 'keystonelaw04.SszWrites': WHATEVER THE INPUT: true; the input reads as it did. -/
def sszWritesSpec : ChangeSpec := { name := "sszWrites", fn := fun _ => fun
  | [d] => { results := [.lit (.bool true)], args := [d] }
  | _ => none }
def sszWritesRow : OpenClaim := { program := "ytcjaoiiklfbhoaa", sum := "54c644c045fd3a94a22a4474dced7b94db3f34ef68626f1f1b12870aa6376e44", func := "keystone/keystonelaw04.SszWrites", spec := "sszWrites", apart := false }
def SszWritesSaid : Prop := sszWritesRow.holds Try.pinned (OpenSpec.ofChange sszWritesSpec)

/-- ITS FALSE NEIGHBOUR: 'it returns false'. Refute it at one input. -/
def sszWritesWrong : ChangeSpec := { name := "sszWrites", fn := fun _ => fun
  | [d] => { results := [.lit (.bool false)], args := [d] }
  | _ => none }
def SszWritesWrongFalsely : Prop := sszWritesRow.holds Try.pinned (OpenSpec.ofChange sszWritesWrong)

/-- 'keystonelaw04.SszSplits': WHATEVER THE INPUT: true; the input reads as it did. -/
def sszSplitsSpec : ChangeSpec := { name := "sszSplits", fn := fun _ => fun
  | [d1, d2, d3, d4] => { results := [.lit (.bool true)], args := [d1, d2, d3, d4] }
  | _ => none }
def sszSplitsRow : OpenClaim := { program := "ytcjaoiiklfbhoaa", sum := "54c644c045fd3a94a22a4474dced7b94db3f34ef68626f1f1b12870aa6376e44", func := "keystone/keystonelaw04.SszSplits", spec := "sszSplits", unfollowed := true, recurses := true, apart := false }
def SszSplitsSaid : Prop := sszSplitsRow.holds Try.pinned (OpenSpec.ofChange sszSplitsSpec)

/-- ITS FALSE NEIGHBOUR: 'it returns false'. Refute it at one input. -/
def sszSplitsWrong : ChangeSpec := { name := "sszSplits", fn := fun _ => fun
  | [d1, d2, d3, d4] => { results := [.lit (.bool false)], args := [d1, d2, d3, d4] }
  | _ => none }
def SszSplitsWrongFalsely : Prop := sszSplitsRow.holds Try.pinned (OpenSpec.ofChange sszSplitsWrong)

/-- 'keystonelaw04.SszFew': WHATEVER THE INPUT: true; the input reads as it did. -/
def sszFewSpec : ChangeSpec := { name := "sszFew", fn := fun _ => fun
  | [d1, d2] => { results := [.lit (.bool true)], args := [d1, d2] }
  | _ => none }
def sszFewRow : OpenClaim := { program := "ytcjaoiiklfbhoaa", sum := "54c644c045fd3a94a22a4474dced7b94db3f34ef68626f1f1b12870aa6376e44", func := "keystone/keystonelaw04.SszFew", spec := "sszFew", recurses := true, apart := false }
def SszFewSaid : Prop := sszFewRow.holds Try.pinned (OpenSpec.ofChange sszFewSpec)

/-- ITS FALSE NEIGHBOUR: 'it returns false'. Refute it at one input. -/
def sszFewWrong : ChangeSpec := { name := "sszFew", fn := fun _ => fun
  | [d1, d2] => { results := [.lit (.bool false)], args := [d1, d2] }
  | _ => none }
def SszFewWrongFalsely : Prop := sszFewRow.holds Try.pinned (OpenSpec.ofChange sszFewWrong)

/-- 'keystonelaw04.SszReads': WHATEVER THE INPUT: true; the input reads as it did. -/
def sszReadsSpec : ChangeSpec := { name := "sszReads", fn := fun _ => fun
  | [d1, d2, d3, d4] => { results := [.lit (.bool true)], args := [d1, d2, d3, d4] }
  | _ => none }
def sszReadsRow : OpenClaim := { program := "ytcjaoiiklfbhoaa", sum := "54c644c045fd3a94a22a4474dced7b94db3f34ef68626f1f1b12870aa6376e44", func := "keystone/keystonelaw04.SszReads", spec := "sszReads", apart := false }
def SszReadsSaid : Prop := sszReadsRow.holds Try.pinned (OpenSpec.ofChange sszReadsSpec)

/-- ITS FALSE NEIGHBOUR: 'it returns false'. Refute it at one input. -/
def sszReadsWrong : ChangeSpec := { name := "sszReads", fn := fun _ => fun
  | [d1, d2, d3, d4] => { results := [.lit (.bool false)], args := [d1, d2, d3, d4] }
  | _ => none }
def SszReadsWrongFalsely : Prop := sszReadsRow.holds Try.pinned (OpenSpec.ofChange sszReadsWrong)

/-- 'keystonelaw04.SszBack': WHATEVER THE INPUT: true; the input reads as it did. -/
def sszBackSpec : ChangeSpec := { name := "sszBack", fn := fun _ => fun
  | [d1, d2] => { results := [.lit (.bool true)], args := [d1, d2] }
  | _ => none }
def sszBackRow : OpenClaim := { program := "ytcjaoiiklfbhoaa", sum := "54c644c045fd3a94a22a4474dced7b94db3f34ef68626f1f1b12870aa6376e44", func := "keystone/keystonelaw04.SszBack", spec := "sszBack", apart := false }
def SszBackSaid : Prop := sszBackRow.holds Try.pinned (OpenSpec.ofChange sszBackSpec)

/-- ITS FALSE NEIGHBOUR: 'it returns false'. Refute it at one input. -/
def sszBackWrong : ChangeSpec := { name := "sszBack", fn := fun _ => fun
  | [d1, d2] => { results := [.lit (.bool false)], args := [d1, d2] }
  | _ => none }
def SszBackWrongFalsely : Prop := sszBackRow.holds Try.pinned (OpenSpec.ofChange sszBackWrong)

/-- 'keystonelaw04.SszJoins': WHATEVER THE INPUT: true; the input reads as it did. -/
def sszJoinsSpec : ChangeSpec := { name := "sszJoins", fn := fun _ => fun
  | [d1, d2] => { results := [.lit (.bool true)], args := [d1, d2] }
  | _ => none }
def sszJoinsRow : OpenClaim := { program := "ytcjaoiiklfbhoaa", sum := "54c644c045fd3a94a22a4474dced7b94db3f34ef68626f1f1b12870aa6376e44", func := "keystone/keystonelaw04.SszJoins", spec := "sszJoins", apart := false }
def SszJoinsSaid : Prop := sszJoinsRow.holds Try.pinned (OpenSpec.ofChange sszJoinsSpec)

/-- ITS FALSE NEIGHBOUR: 'it returns false'. Refute it at one input. -/
def sszJoinsWrong : ChangeSpec := { name := "sszJoins", fn := fun _ => fun
  | [d1, d2] => { results := [.lit (.bool false)], args := [d1, d2] }
  | _ => none }
def SszJoinsWrongFalsely : Prop := sszJoinsRow.holds Try.pinned (OpenSpec.ofChange sszJoinsWrong)

/-- 'keystonelaw04.SszParts': WHATEVER THE INPUT: true; the input reads as it did. -/
def sszPartsSpec : ChangeSpec := { name := "sszParts", fn := fun _ => fun
  | [d1, d2] => { results := [.lit (.bool true)], args := [d1, d2] }
  | _ => none }
def sszPartsRow : OpenClaim := { program := "ytcjaoiiklfbhoaa", sum := "54c644c045fd3a94a22a4474dced7b94db3f34ef68626f1f1b12870aa6376e44", func := "keystone/keystonelaw04.SszParts", spec := "sszParts", recurses := true, apart := false }
def SszPartsSaid : Prop := sszPartsRow.holds Try.pinned (OpenSpec.ofChange sszPartsSpec)

/-- ITS FALSE NEIGHBOUR: 'it returns false'. Refute it at one input. -/
def sszPartsWrong : ChangeSpec := { name := "sszParts", fn := fun _ => fun
  | [d1, d2] => { results := [.lit (.bool false)], args := [d1, d2] }
  | _ => none }
def SszPartsWrongFalsely : Prop := sszPartsRow.holds Try.pinned (OpenSpec.ofChange sszPartsWrong)

/-- 'keystonelaw04.SszLists': WHATEVER THE INPUT: true; the input reads as it did. -/
def sszListsSpec : ChangeSpec := { name := "sszLists", fn := fun _ => fun
  | [d1, d2, d3] => { results := [.lit (.bool true)], args := [d1, d2, d3] }
  | _ => none }
def sszListsRow : OpenClaim := { program := "ytcjaoiiklfbhoaa", sum := "54c644c045fd3a94a22a4474dced7b94db3f34ef68626f1f1b12870aa6376e44", func := "keystone/keystonelaw04.SszLists", spec := "sszLists", unfollowed := true, recurses := true, apart := false }
def SszListsSaid : Prop := sszListsRow.holds Try.pinned (OpenSpec.ofChange sszListsSpec)

/-- ITS FALSE NEIGHBOUR: 'it returns false'. Refute it at one input. -/
def sszListsWrong : ChangeSpec := { name := "sszLists", fn := fun _ => fun
  | [d1, d2, d3] => { results := [.lit (.bool false)], args := [d1, d2, d3] }
  | _ => none }
def SszListsWrongFalsely : Prop := sszListsRow.holds Try.pinned (OpenSpec.ofChange sszListsWrong)

/- THE SECOND FORM. 'bulk': how many values and letters a reading holds, each counted each time it is reached (what is shared counts as often as it is met; a slice's spare places count too). A statement '..UptoSaid' is the law's where the arguments, and the package variables that the reading takes, are together of bulk at most 1048576: NARROWER than '..Said'. Prove '..Said' where nothing that the law and all that it calls make is longer than what came in: it says more and counts as full. Else prove '..UptoSaid'. A law counts once. -/
mutual
def uptoBulk {H : Type} : DataW H → Nat
  | .lit (.string bytes) => bytes.length + 1
  | .lit _ => 1
  | .nil => 1
  | .ptr d => uptoBulk d + 1
  | .slice elems spare => uptoBulkAll elems + uptoBulkAll spare + 1
  | .agg parts => uptoBulkAll parts + 1
  | .iface _ d => uptoBulk d + 1
  | .map entries => uptoBulkEntries entries + 1
  | .held _ => 1
def uptoBulkAll {H : Type} : List (DataW H) → Nat
  | [] => 0
  | d :: r => uptoBulk d + uptoBulkAll r
def uptoBulkEntries {H : Type} : List (Lit × DataW H) → Nat
  | [] => 0
  | x :: r => uptoBulkEntry x + uptoBulkEntries r
def uptoBulkEntry {H : Type} : Lit × DataW H → Nat
  | (.string bytes, d) => bytes.length + uptoBulk d + 1
  | (_, d) => uptoBulk d + 1
 end
def uptoSmall : (H : Type) → List (DataW H) → Bool := fun _ ds => decide (uptoBulkAll ds ≤ 1048576)
def OpenSpec.upto (s : _root_.Go.ChangeSpec) : _root_.Go.OpenSpec := { _root_.Go.OpenSpec.ofChange s with cond := some uptoSmall }

/-- 'keystonelaw04.SszBits', WHERE WHAT IT READS IS OF BULK AT MOST 1048576: true; the input reads as it did. -/
def sszBitsUptoRow : OpenClaim := { program := "ytcjaoiiklfbhoaa", sum := "54c644c045fd3a94a22a4474dced7b94db3f34ef68626f1f1b12870aa6376e44", func := "keystone/keystonelaw04.SszBits", spec := "sszBits", recurses := true, apart := false, narrowed := true }
def SszBitsUptoSaid : Prop := sszBitsUptoRow.holds Try.pinned (OpenSpec.upto sszBitsSpec)

/-- 'keystonelaw04.SszWrites', WHERE WHAT IT READS IS OF BULK AT MOST 1048576: true; the input reads as it did. -/
def sszWritesUptoRow : OpenClaim := { program := "ytcjaoiiklfbhoaa", sum := "54c644c045fd3a94a22a4474dced7b94db3f34ef68626f1f1b12870aa6376e44", func := "keystone/keystonelaw04.SszWrites", spec := "sszWrites", apart := false, narrowed := true }
def SszWritesUptoSaid : Prop := sszWritesUptoRow.holds Try.pinned (OpenSpec.upto sszWritesSpec)

/-- 'keystonelaw04.SszSplits', WHERE WHAT IT READS IS OF BULK AT MOST 1048576: true; the input reads as it did. -/
def sszSplitsUptoRow : OpenClaim := { program := "ytcjaoiiklfbhoaa", sum := "54c644c045fd3a94a22a4474dced7b94db3f34ef68626f1f1b12870aa6376e44", func := "keystone/keystonelaw04.SszSplits", spec := "sszSplits", unfollowed := true, recurses := true, apart := false, narrowed := true }
def SszSplitsUptoSaid : Prop := sszSplitsUptoRow.holds Try.pinned (OpenSpec.upto sszSplitsSpec)

/-- 'keystonelaw04.SszFew', WHERE WHAT IT READS IS OF BULK AT MOST 1048576: true; the input reads as it did. -/
def sszFewUptoRow : OpenClaim := { program := "ytcjaoiiklfbhoaa", sum := "54c644c045fd3a94a22a4474dced7b94db3f34ef68626f1f1b12870aa6376e44", func := "keystone/keystonelaw04.SszFew", spec := "sszFew", recurses := true, apart := false, narrowed := true }
def SszFewUptoSaid : Prop := sszFewUptoRow.holds Try.pinned (OpenSpec.upto sszFewSpec)

/-- 'keystonelaw04.SszReads', WHERE WHAT IT READS IS OF BULK AT MOST 1048576: true; the input reads as it did. -/
def sszReadsUptoRow : OpenClaim := { program := "ytcjaoiiklfbhoaa", sum := "54c644c045fd3a94a22a4474dced7b94db3f34ef68626f1f1b12870aa6376e44", func := "keystone/keystonelaw04.SszReads", spec := "sszReads", apart := false, narrowed := true }
def SszReadsUptoSaid : Prop := sszReadsUptoRow.holds Try.pinned (OpenSpec.upto sszReadsSpec)

/-- 'keystonelaw04.SszBack', WHERE WHAT IT READS IS OF BULK AT MOST 1048576: true; the input reads as it did. -/
def sszBackUptoRow : OpenClaim := { program := "ytcjaoiiklfbhoaa", sum := "54c644c045fd3a94a22a4474dced7b94db3f34ef68626f1f1b12870aa6376e44", func := "keystone/keystonelaw04.SszBack", spec := "sszBack", apart := false, narrowed := true }
def SszBackUptoSaid : Prop := sszBackUptoRow.holds Try.pinned (OpenSpec.upto sszBackSpec)

/-- 'keystonelaw04.SszJoins', WHERE WHAT IT READS IS OF BULK AT MOST 1048576: true; the input reads as it did. -/
def sszJoinsUptoRow : OpenClaim := { program := "ytcjaoiiklfbhoaa", sum := "54c644c045fd3a94a22a4474dced7b94db3f34ef68626f1f1b12870aa6376e44", func := "keystone/keystonelaw04.SszJoins", spec := "sszJoins", apart := false, narrowed := true }
def SszJoinsUptoSaid : Prop := sszJoinsUptoRow.holds Try.pinned (OpenSpec.upto sszJoinsSpec)

/-- 'keystonelaw04.SszParts', WHERE WHAT IT READS IS OF BULK AT MOST 1048576: true; the input reads as it did. -/
def sszPartsUptoRow : OpenClaim := { program := "ytcjaoiiklfbhoaa", sum := "54c644c045fd3a94a22a4474dced7b94db3f34ef68626f1f1b12870aa6376e44", func := "keystone/keystonelaw04.SszParts", spec := "sszParts", recurses := true, apart := false, narrowed := true }
def SszPartsUptoSaid : Prop := sszPartsUptoRow.holds Try.pinned (OpenSpec.upto sszPartsSpec)

/-- 'keystonelaw04.SszLists', WHERE WHAT IT READS IS OF BULK AT MOST 1048576: true; the input reads as it did. -/
def sszListsUptoRow : OpenClaim := { program := "ytcjaoiiklfbhoaa", sum := "54c644c045fd3a94a22a4474dced7b94db3f34ef68626f1f1b12870aa6376e44", func := "keystone/keystonelaw04.SszLists", spec := "sszLists", unfollowed := true, recurses := true, apart := false, narrowed := true }
def SszListsUptoSaid : Prop := sszListsUptoRow.holds Try.pinned (OpenSpec.upto sszListsSpec)

end Rows
end Go.Proofs.Ytcjaoiiklfbhoaa
