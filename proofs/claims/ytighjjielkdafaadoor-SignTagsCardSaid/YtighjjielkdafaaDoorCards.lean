/-
  DERIVED. GIVEN WITH THE SEED: THE CARDS: each row of YtighjjielkdafaaDoorRows.lean that lists a variable, with what it lists TIED to the program's text (the seventh form; the later family's looks); each row that meets fmt, with fmt's text TOLD by the authors' own Lean function (tested against real Go, not proved from fmt's source: count such statements apart). THE CARD IS WHAT COUNTS. Prove the row's statement (the work); the ties are given (YtighjjielkdafaaDoorTie.lean); close each card by the builder's one call (the guide's Derived/Test/ToyasCard.lean, 'card_holds'). Laid BY PROGRAM, IN A SANDBOX (cutbox-door.mjs). By AI agents, Wed Nov 11 2026. No macro, syntax, notation, axiom, sorry.
-/
import Derived.Test.YtighjjielkdafaaDoorRows
import GoSem.ClaimSeven
namespace Go.Proofs.YtighjjielkdafaaDoor
namespace Rows

/-- THE TIED CARD OF 'keystonelaw02.DigestSums'. -/
def digestSumsCard : Claim7 := { stood := { row := digestSumsRow, standIns := [], harness := (true, "3d962dfefd1aef675145c7b961270a29710b2b15a8c1f518c3467956cea34ec2"), looks := false }, kinds := [], alts := [], laidByText := true, laidKinds := [.data], laidTests := true, laidLooks := .later }
def DigestSumsCardSaid : Prop := Claim7.holds Tryd.pinned (.plain (OpenSpec.ofChange digestSumsSpec)) digestSumsCard

/-- THE TIED CARD OF 'keystonelaw02.DigestEnds'. -/
def digestEndsCard : Claim7 := { stood := { row := digestEndsRow, standIns := [], harness := (true, "3d962dfefd1aef675145c7b961270a29710b2b15a8c1f518c3467956cea34ec2"), looks := false }, kinds := [], alts := [], laidByText := true, laidKinds := [.data], laidTests := true, laidLooks := .later }
def DigestEndsCardSaid : Prop := Claim7.holds Tryd.pinned (.plain (OpenSpec.ofChange digestEndsSpec)) digestEndsCard

/-- THE TIED CARD OF 'keystonelaw02.DigestPairs'. -/
def digestPairsCard : Claim7 := { stood := { row := digestPairsRow, standIns := [], harness := (true, "3d962dfefd1aef675145c7b961270a29710b2b15a8c1f518c3467956cea34ec2"), looks := false }, kinds := [], alts := [], laidByText := true, laidKinds := [.data], laidTests := true, laidLooks := .later }
def DigestPairsCardSaid : Prop := Claim7.holds Tryd.pinned (.plain (OpenSpec.ofChange digestPairsSpec)) digestPairsCard

/-- THE TIED CARD OF 'keystonelaw07.SignJoins'. -/
def signJoinsCard : Claim7 := { stood := { row := signJoinsRow, standIns := [], harness := (true, "3d962dfefd1aef675145c7b961270a29710b2b15a8c1f518c3467956cea34ec2"), looks := false }, kinds := [], alts := [], laidByText := true, laidKinds := [.data], laidTests := true, laidLooks := .later }
def SignJoinsCardSaid : Prop := Claim7.holds Tryd.pinned (.plain (OpenSpec.ofChange signJoinsSpec)) signJoinsCard

/-- THE TIED CARD OF 'keystonelaw07.SignTags'. -/
def signTagsCard : Claim7 := { stood := { row := signTagsRow, standIns := [], harness := (true, "3d962dfefd1aef675145c7b961270a29710b2b15a8c1f518c3467956cea34ec2"), looks := false }, kinds := [], alts := [], laidByText := true, laidKinds := [.data], laidTests := true, laidLooks := .later }
def SignTagsCardSaid : Prop := Claim7.holds Tryd.pinned (.plain (OpenSpec.ofChange signTagsSpec)) signTagsCard

/-- THE TIED CARD OF 'keystonelaw03.MerkleWider'. -/
def merkleWiderCard : Claim7 := { stood := { row := merkleWiderRow, standIns := [], harness := (true, "3d962dfefd1aef675145c7b961270a29710b2b15a8c1f518c3467956cea34ec2"), looks := false }, kinds := [], alts := [], laidByText := true, laidKinds := [.data], laidTests := true, laidLooks := .later }
def MerkleWiderCardSaid : Prop := Claim7.holds Tryd.pinned (.plain (OpenSpec.ofChange merkleWiderSpec)) merkleWiderCard

/-- THE TIED CARD OF 'keystonelaw03.MerkleChunks'. -/
def merkleChunksCard : Claim7 := { stood := { row := merkleChunksRow, standIns := [], harness := (true, "3d962dfefd1aef675145c7b961270a29710b2b15a8c1f518c3467956cea34ec2"), looks := false }, kinds := [], alts := [], laidByText := true, laidKinds := [.data], laidTests := true, laidLooks := .later }
def MerkleChunksCardSaid : Prop := Claim7.holds Tryd.pinned (.plain (OpenSpec.ofChange merkleChunksSpec)) merkleChunksCard

/-- THE TIED CARD OF 'keystonelaw03.MerkleTrees'. -/
def merkleTreesCard : Claim7 := { stood := { row := merkleTreesRow, standIns := [], harness := (true, "3d962dfefd1aef675145c7b961270a29710b2b15a8c1f518c3467956cea34ec2"), looks := false }, kinds := [], alts := [], laidByText := true, laidKinds := [.data], laidTests := true, laidLooks := .later }
def MerkleTreesCardSaid : Prop := Claim7.holds Tryd.pinned (.plain (OpenSpec.ofChange merkleTreesSpec)) merkleTreesCard

/-- THE TIED CARD OF 'keystonelaw03.MerkleBranches'. -/
def merkleBranchesCard : Claim7 := { stood := { row := merkleBranchesRow, standIns := [], harness := (true, "3d962dfefd1aef675145c7b961270a29710b2b15a8c1f518c3467956cea34ec2"), looks := false }, kinds := [], alts := [], laidByText := true, laidKinds := [.data], laidTests := true, laidLooks := .later }
def MerkleBranchesCardSaid : Prop := Claim7.holds Tryd.pinned (.plain (OpenSpec.ofChange merkleBranchesSpec)) merkleBranchesCard

/-- THE TIED CARD OF 'keystonelaw03.MerkleProves'. -/
def merkleProvesCard : Claim7 := { stood := { row := merkleProvesRow, standIns := [], harness := (true, "3d962dfefd1aef675145c7b961270a29710b2b15a8c1f518c3467956cea34ec2"), looks := false }, kinds := [], alts := [], laidByText := true, laidKinds := [.data], laidTests := true, laidLooks := .later }
def MerkleProvesCardSaid : Prop := Claim7.holds Tryd.pinned (.plain (OpenSpec.ofChange merkleProvesSpec)) merkleProvesCard

/-- THE SECOND FORM's CARD OF 'keystonelaw02.DigestSums'. -/
def digestSumsUptoCard : Claim7 := { stood := { row := digestSumsUptoRow, standIns := [], harness := (true, "3d962dfefd1aef675145c7b961270a29710b2b15a8c1f518c3467956cea34ec2"), looks := false }, kinds := [], alts := [], laidByText := true, laidKinds := [.data], laidTests := true, laidLooks := .later }
def DigestSumsUptoCardSaid : Prop := Claim7.holds Tryd.pinned (.plain (OpenSpec.upto digestSumsSpec)) digestSumsUptoCard

/-- THE SECOND FORM's CARD OF 'keystonelaw02.DigestEnds'. -/
def digestEndsUptoCard : Claim7 := { stood := { row := digestEndsUptoRow, standIns := [], harness := (true, "3d962dfefd1aef675145c7b961270a29710b2b15a8c1f518c3467956cea34ec2"), looks := false }, kinds := [], alts := [], laidByText := true, laidKinds := [.data], laidTests := true, laidLooks := .later }
def DigestEndsUptoCardSaid : Prop := Claim7.holds Tryd.pinned (.plain (OpenSpec.upto digestEndsSpec)) digestEndsUptoCard

/-- THE SECOND FORM's CARD OF 'keystonelaw02.DigestPairs'. -/
def digestPairsUptoCard : Claim7 := { stood := { row := digestPairsUptoRow, standIns := [], harness := (true, "3d962dfefd1aef675145c7b961270a29710b2b15a8c1f518c3467956cea34ec2"), looks := false }, kinds := [], alts := [], laidByText := true, laidKinds := [.data], laidTests := true, laidLooks := .later }
def DigestPairsUptoCardSaid : Prop := Claim7.holds Tryd.pinned (.plain (OpenSpec.upto digestPairsSpec)) digestPairsUptoCard

/-- THE SECOND FORM's CARD OF 'keystonelaw07.SignJoins'. -/
def signJoinsUptoCard : Claim7 := { stood := { row := signJoinsUptoRow, standIns := [], harness := (true, "3d962dfefd1aef675145c7b961270a29710b2b15a8c1f518c3467956cea34ec2"), looks := false }, kinds := [], alts := [], laidByText := true, laidKinds := [.data], laidTests := true, laidLooks := .later }
def SignJoinsUptoCardSaid : Prop := Claim7.holds Tryd.pinned (.plain (OpenSpec.upto signJoinsSpec)) signJoinsUptoCard

/-- THE SECOND FORM's CARD OF 'keystonelaw07.SignTags'. -/
def signTagsUptoCard : Claim7 := { stood := { row := signTagsUptoRow, standIns := [], harness := (true, "3d962dfefd1aef675145c7b961270a29710b2b15a8c1f518c3467956cea34ec2"), looks := false }, kinds := [], alts := [], laidByText := true, laidKinds := [.data], laidTests := true, laidLooks := .later }
def SignTagsUptoCardSaid : Prop := Claim7.holds Tryd.pinned (.plain (OpenSpec.upto signTagsSpec)) signTagsUptoCard

/-- THE SECOND FORM's CARD OF 'keystonelaw03.MerkleWider'. -/
def merkleWiderUptoCard : Claim7 := { stood := { row := merkleWiderUptoRow, standIns := [], harness := (true, "3d962dfefd1aef675145c7b961270a29710b2b15a8c1f518c3467956cea34ec2"), looks := false }, kinds := [], alts := [], laidByText := true, laidKinds := [.data], laidTests := true, laidLooks := .later }
def MerkleWiderUptoCardSaid : Prop := Claim7.holds Tryd.pinned (.plain (OpenSpec.upto merkleWiderSpec)) merkleWiderUptoCard

/-- THE SECOND FORM's CARD OF 'keystonelaw03.MerkleChunks'. -/
def merkleChunksUptoCard : Claim7 := { stood := { row := merkleChunksUptoRow, standIns := [], harness := (true, "3d962dfefd1aef675145c7b961270a29710b2b15a8c1f518c3467956cea34ec2"), looks := false }, kinds := [], alts := [], laidByText := true, laidKinds := [.data], laidTests := true, laidLooks := .later }
def MerkleChunksUptoCardSaid : Prop := Claim7.holds Tryd.pinned (.plain (OpenSpec.upto merkleChunksSpec)) merkleChunksUptoCard

/-- THE SECOND FORM's CARD OF 'keystonelaw03.MerkleTrees'. -/
def merkleTreesUptoCard : Claim7 := { stood := { row := merkleTreesUptoRow, standIns := [], harness := (true, "3d962dfefd1aef675145c7b961270a29710b2b15a8c1f518c3467956cea34ec2"), looks := false }, kinds := [], alts := [], laidByText := true, laidKinds := [.data], laidTests := true, laidLooks := .later }
def MerkleTreesUptoCardSaid : Prop := Claim7.holds Tryd.pinned (.plain (OpenSpec.upto merkleTreesSpec)) merkleTreesUptoCard

/-- THE SECOND FORM's CARD OF 'keystonelaw03.MerkleBranches'. -/
def merkleBranchesUptoCard : Claim7 := { stood := { row := merkleBranchesUptoRow, standIns := [], harness := (true, "3d962dfefd1aef675145c7b961270a29710b2b15a8c1f518c3467956cea34ec2"), looks := false }, kinds := [], alts := [], laidByText := true, laidKinds := [.data], laidTests := true, laidLooks := .later }
def MerkleBranchesUptoCardSaid : Prop := Claim7.holds Tryd.pinned (.plain (OpenSpec.upto merkleBranchesSpec)) merkleBranchesUptoCard

/-- THE SECOND FORM's CARD OF 'keystonelaw03.MerkleProves'. -/
def merkleProvesUptoCard : Claim7 := { stood := { row := merkleProvesUptoRow, standIns := [], harness := (true, "3d962dfefd1aef675145c7b961270a29710b2b15a8c1f518c3467956cea34ec2"), looks := false }, kinds := [], alts := [], laidByText := true, laidKinds := [.data], laidTests := true, laidLooks := .later }
def MerkleProvesUptoCardSaid : Prop := Claim7.holds Tryd.pinned (.plain (OpenSpec.upto merkleProvesSpec)) merkleProvesUptoCard
end Rows
end Go.Proofs.YtighjjielkdafaaDoor
