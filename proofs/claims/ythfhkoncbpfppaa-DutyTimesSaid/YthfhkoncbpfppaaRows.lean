/-
  No cell of these rows narrows 'for every input' (looked for: loops, veiled, ifaces, maps, wideKeys, modest, calm, conditions, laid).
  DERIVED. THE GIVEN ROWS OF THIS SEAT. 6 by the template 'for every input the law returns true; each argument reads behind the call as it read before'; 0 by the template 'total and deterministic' (their statements: YthfhkoncbpfppaaTotals.lean).
  GIVEN WITH THE SEED: the statements are not yours to turn. If you find one false, say at which input.
  Laid BY PROGRAM, IN A SANDBOX (cutbox-rows.mjs): the forced cells as the released guide's own fill.sh prints them over the translation e02577f9133be11d… (all of the seat's roots in one cut). By AI agents, Wed Nov 11 2026. No macro, syntax, notation, axiom, sorry.
-/
import Derived.Test.YthfhkoncbpfppaaChecked
import GoSem.Claim
import GoSem.ClaimJoined
import GoSem.ClaimMapViews
import Derived.JoinedTies
import Derived.KernelRfl
namespace Go.Proofs.Ythfhkoncbpfppaa
/- THE CELL 'sum', in the pinned program and in every row, IS THE sha256 OF THE DUMP (.gsa) THAT YthfhkoncbpfppaaProg.lean LOADS. Nothing in Lean hashes anything: it is a label: what it is worth is what the hold of that sum in a sandbox is worth. -/
noncomputable def Try.pinned : Pinned := { name := "ythfhkoncbpfppaa", sum := "e02577f9133be11d54efb86a9095ffec919a6ee0702f502ff4c3a353054f7d2f", checked := Try.checked }
namespace Rows
def none {H : Type} : Left H := { results := [], args := [] }

/-- 'keystonelaw09.DutySlashable': WHATEVER THE INPUT: true; the input reads as it did. -/
def dutySlashableSpec : ChangeSpec := { name := "dutySlashable", fn := fun _ => fun
  | [d1, d2] => { results := [.lit (.bool true)], args := [d1, d2] }
  | _ => none }
def dutySlashableRow : OpenClaim := { program := "ythfhkoncbpfppaa", sum := "e02577f9133be11d54efb86a9095ffec919a6ee0702f502ff4c3a353054f7d2f", func := "keystone/keystonelaw09.DutySlashable", spec := "dutySlashable", apart := false }
def DutySlashableSaid : Prop := dutySlashableRow.holds Try.pinned (OpenSpec.ofChange dutySlashableSpec)

/-- ITS FALSE NEIGHBOUR: 'it returns false'. Refute it at one input. -/
def dutySlashableWrong : ChangeSpec := { name := "dutySlashable", fn := fun _ => fun
  | [d1, d2] => { results := [.lit (.bool false)], args := [d1, d2] }
  | _ => none }
def DutySlashableWrongFalsely : Prop := dutySlashableRow.holds Try.pinned (OpenSpec.ofChange dutySlashableWrong)

/-- 'keystonelaw09.DutyTimes': WHATEVER THE INPUT: true; the input reads as it did. -/
def dutyTimesSpec : ChangeSpec := { name := "dutyTimes", fn := fun _ => fun
  | [d1, d2, d3] => { results := [.lit (.bool true)], args := [d1, d2, d3] }
  | _ => none }
def dutyTimesRow : OpenClaim := { program := "ythfhkoncbpfppaa", sum := "e02577f9133be11d54efb86a9095ffec919a6ee0702f502ff4c3a353054f7d2f", func := "keystone/keystonelaw09.DutyTimes", spec := "dutyTimes", apart := false }
def DutyTimesSaid : Prop := dutyTimesRow.holds Try.pinned (OpenSpec.ofChange dutyTimesSpec)

/-- ITS FALSE NEIGHBOUR: 'it returns false'. Refute it at one input. -/
def dutyTimesWrong : ChangeSpec := { name := "dutyTimes", fn := fun _ => fun
  | [d1, d2, d3] => { results := [.lit (.bool false)], args := [d1, d2, d3] }
  | _ => none }
def DutyTimesWrongFalsely : Prop := dutyTimesRow.holds Try.pinned (OpenSpec.ofChange dutyTimesWrong)

/-- 'keystonelaw01.NumBytes': WHATEVER THE INPUT: true; the input reads as it did. -/
def numBytesSpec : ChangeSpec := { name := "numBytes", fn := fun _ => fun
  | [d1, d2, d3] => { results := [.lit (.bool true)], args := [d1, d2, d3] }
  | _ => none }
def numBytesRow : OpenClaim := { program := "ythfhkoncbpfppaa", sum := "e02577f9133be11d54efb86a9095ffec919a6ee0702f502ff4c3a353054f7d2f", func := "keystone/keystonelaw01.NumBytes", spec := "numBytes", inPlace := ["math/bits.Add64"], apart := false }
def NumBytesSaid : Prop := numBytesRow.holds Try.pinned (OpenSpec.ofChange numBytesSpec)

/-- ITS FALSE NEIGHBOUR: 'it returns false'. Refute it at one input. -/
def numBytesWrong : ChangeSpec := { name := "numBytes", fn := fun _ => fun
  | [d1, d2, d3] => { results := [.lit (.bool false)], args := [d1, d2, d3] }
  | _ => none }
def NumBytesWrongFalsely : Prop := numBytesRow.holds Try.pinned (OpenSpec.ofChange numBytesWrong)

/-- 'keystonelaw01.NumRoots': WHATEVER THE INPUT: true; the input reads as it did. -/
def numRootsSpec : ChangeSpec := { name := "numRoots", fn := fun _ => fun
  | [d] => { results := [.lit (.bool true)], args := [d] }
  | _ => none }
def numRootsRow : OpenClaim := { program := "ythfhkoncbpfppaa", sum := "e02577f9133be11d54efb86a9095ffec919a6ee0702f502ff4c3a353054f7d2f", func := "keystone/keystonelaw01.NumRoots", spec := "numRoots", inPlace := ["math/bits.Add64"], apart := false }
def NumRootsSaid : Prop := numRootsRow.holds Try.pinned (OpenSpec.ofChange numRootsSpec)

/-- ITS FALSE NEIGHBOUR: 'it returns false'. Refute it at one input. -/
def numRootsWrong : ChangeSpec := { name := "numRoots", fn := fun _ => fun
  | [d] => { results := [.lit (.bool false)], args := [d] }
  | _ => none }
def NumRootsWrongFalsely : Prop := numRootsRow.holds Try.pinned (OpenSpec.ofChange numRootsWrong)

/-- 'keystonelaw01.NumSums': WHATEVER THE INPUT: true; the input reads as it did. -/
def numSumsSpec : ChangeSpec := { name := "numSums", fn := fun _ => fun
  | [d1, d2] => { results := [.lit (.bool true)], args := [d1, d2] }
  | _ => none }
def numSumsRow : OpenClaim := { program := "ythfhkoncbpfppaa", sum := "e02577f9133be11d54efb86a9095ffec919a6ee0702f502ff4c3a353054f7d2f", func := "keystone/keystonelaw01.NumSums", spec := "numSums", inPlace := ["math/bits.Add64"], apart := false }
def NumSumsSaid : Prop := numSumsRow.holds Try.pinned (OpenSpec.ofChange numSumsSpec)

/-- ITS FALSE NEIGHBOUR: 'it returns false'. Refute it at one input. -/
def numSumsWrong : ChangeSpec := { name := "numSums", fn := fun _ => fun
  | [d1, d2] => { results := [.lit (.bool false)], args := [d1, d2] }
  | _ => none }
def NumSumsWrongFalsely : Prop := numSumsRow.holds Try.pinned (OpenSpec.ofChange numSumsWrong)

/-- 'keystonelaw01.NumBack': WHATEVER THE INPUT: true; the input reads as it did. -/
def numBackSpec : ChangeSpec := { name := "numBack", fn := fun _ => fun
  | [d1, d2] => { results := [.lit (.bool true)], args := [d1, d2] }
  | _ => none }
def numBackRow : OpenClaim := { program := "ythfhkoncbpfppaa", sum := "e02577f9133be11d54efb86a9095ffec919a6ee0702f502ff4c3a353054f7d2f", func := "keystone/keystonelaw01.NumBack", spec := "numBack", inPlace := ["math/bits.Add64"], apart := false }
def NumBackSaid : Prop := numBackRow.holds Try.pinned (OpenSpec.ofChange numBackSpec)

/-- ITS FALSE NEIGHBOUR: 'it returns false'. Refute it at one input. -/
def numBackWrong : ChangeSpec := { name := "numBack", fn := fun _ => fun
  | [d1, d2] => { results := [.lit (.bool false)], args := [d1, d2] }
  | _ => none }
def NumBackWrongFalsely : Prop := numBackRow.holds Try.pinned (OpenSpec.ofChange numBackWrong)

/- THE SECOND FORM. 'bulk': how many values and letters a reading holds, each counted each time it is reached (what is shared counts as often as it is met; a slice's spare places count too). A statement '..UptoSaid' is the law's where the arguments, and the package variables that the reading takes, are together of bulk at most 1048576: NARROWER than '..Said'. Prove '..Said' where nothing that the law and all that it calls make is longer than what came in: it says more and counts as full. Else prove '..UptoSaid'. A law counts once. -/
mutual
def uptoBulk {H : Type} : DataW H → Nat
  | .lit (.string bytes) => bytes.length + 1
  | .lit _ => 1
  | .nil => 1
  | .ptr d => uptoBulk d + 1
  | .slice elems spare => uptoBulkAll elems + uptoBulkAll spare + 1
  | .agg parts => uptoBulkAll parts + 1
  | .iface _ d => uptoBulk d + 1
  | .map entries => uptoBulkEntries entries + 1
  | .held _ => 1
def uptoBulkAll {H : Type} : List (DataW H) → Nat
  | [] => 0
  | d :: r => uptoBulk d + uptoBulkAll r
def uptoBulkEntries {H : Type} : List (Lit × DataW H) → Nat
  | [] => 0
  | x :: r => uptoBulkEntry x + uptoBulkEntries r
def uptoBulkEntry {H : Type} : Lit × DataW H → Nat
  | (.string bytes, d) => bytes.length + uptoBulk d + 1
  | (_, d) => uptoBulk d + 1
 end
def uptoSmall : (H : Type) → List (DataW H) → Bool := fun _ ds => decide (uptoBulkAll ds ≤ 1048576)
def OpenSpec.upto (s : _root_.Go.ChangeSpec) : _root_.Go.OpenSpec := { _root_.Go.OpenSpec.ofChange s with cond := some uptoSmall }

/-- 'keystonelaw09.DutySlashable', WHERE WHAT IT READS IS OF BULK AT MOST 1048576: true; the input reads as it did. -/
def dutySlashableUptoRow : OpenClaim := { program := "ythfhkoncbpfppaa", sum := "e02577f9133be11d54efb86a9095ffec919a6ee0702f502ff4c3a353054f7d2f", func := "keystone/keystonelaw09.DutySlashable", spec := "dutySlashable", apart := false, narrowed := true }
def DutySlashableUptoSaid : Prop := dutySlashableUptoRow.holds Try.pinned (OpenSpec.upto dutySlashableSpec)

/-- 'keystonelaw09.DutyTimes', WHERE WHAT IT READS IS OF BULK AT MOST 1048576: true; the input reads as it did. -/
def dutyTimesUptoRow : OpenClaim := { program := "ythfhkoncbpfppaa", sum := "e02577f9133be11d54efb86a9095ffec919a6ee0702f502ff4c3a353054f7d2f", func := "keystone/keystonelaw09.DutyTimes", spec := "dutyTimes", apart := false, narrowed := true }
def DutyTimesUptoSaid : Prop := dutyTimesUptoRow.holds Try.pinned (OpenSpec.upto dutyTimesSpec)

/-- 'keystonelaw01.NumBytes', WHERE WHAT IT READS IS OF BULK AT MOST 1048576: true; the input reads as it did. -/
def numBytesUptoRow : OpenClaim := { program := "ythfhkoncbpfppaa", sum := "e02577f9133be11d54efb86a9095ffec919a6ee0702f502ff4c3a353054f7d2f", func := "keystone/keystonelaw01.NumBytes", spec := "numBytes", inPlace := ["math/bits.Add64"], apart := false, narrowed := true }
def NumBytesUptoSaid : Prop := numBytesUptoRow.holds Try.pinned (OpenSpec.upto numBytesSpec)

/-- 'keystonelaw01.NumRoots', WHERE WHAT IT READS IS OF BULK AT MOST 1048576: true; the input reads as it did. -/
def numRootsUptoRow : OpenClaim := { program := "ythfhkoncbpfppaa", sum := "e02577f9133be11d54efb86a9095ffec919a6ee0702f502ff4c3a353054f7d2f", func := "keystone/keystonelaw01.NumRoots", spec := "numRoots", inPlace := ["math/bits.Add64"], apart := false, narrowed := true }
def NumRootsUptoSaid : Prop := numRootsUptoRow.holds Try.pinned (OpenSpec.upto numRootsSpec)

/-- 'keystonelaw01.NumSums', WHERE WHAT IT READS IS OF BULK AT MOST 1048576: true; the input reads as it did. -/
def numSumsUptoRow : OpenClaim := { program := "ythfhkoncbpfppaa", sum := "e02577f9133be11d54efb86a9095ffec919a6ee0702f502ff4c3a353054f7d2f", func := "keystone/keystonelaw01.NumSums", spec := "numSums", inPlace := ["math/bits.Add64"], apart := false, narrowed := true }
def NumSumsUptoSaid : Prop := numSumsUptoRow.holds Try.pinned (OpenSpec.upto numSumsSpec)

/-- 'keystonelaw01.NumBack', WHERE WHAT IT READS IS OF BULK AT MOST 1048576: true; the input reads as it did. -/
def numBackUptoRow : OpenClaim := { program := "ythfhkoncbpfppaa", sum := "e02577f9133be11d54efb86a9095ffec919a6ee0702f502ff4c3a353054f7d2f", func := "keystone/keystonelaw01.NumBack", spec := "numBack", inPlace := ["math/bits.Add64"], apart := false, narrowed := true }
def NumBackUptoSaid : Prop := numBackUptoRow.holds Try.pinned (OpenSpec.upto numBackSpec)

end Rows
end Go.Proofs.Ythfhkoncbpfppaa
