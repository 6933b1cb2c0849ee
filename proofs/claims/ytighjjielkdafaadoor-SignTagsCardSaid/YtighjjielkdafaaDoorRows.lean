/-
  NARROWER THAN 'FOR EVERY INPUT', by the rows' own cells (each row's printed sentence says how): DigestSums: laid · DigestEnds: laid · DigestPairs: laid · SignJoins: laid · SignTags: laid · MerkleWider: laid · MerkleChunks: laid · MerkleTrees: laid · MerkleBranches: laid · MerkleProves: laid.
  DERIVED. THE GIVEN ROWS OF THIS SEAT. 10 by the template 'for every input the law returns true; each argument reads behind the call as it read before'; 0 by the template 'total and deterministic' (their statements: YtighjjielkdafaaDoorTotals.lean).
  GIVEN WITH THE SEED: the statements are not yours to turn. If you find one false, say at which input.
  Laid BY PROGRAM, IN A SANDBOX (cutbox-rows.mjs): the forced cells as the released guide's own fill.sh prints them over the translation feb38e2278dd34b3… (all of the seat's roots in one cut). By AI agents, Wed Nov 11 2026. No macro, syntax, notation, axiom, sorry.
-/
import Derived.Test.YtighjjielkdafaaDoorChecked
import GoSem.Claim
import GoSem.ClaimJoined
import GoSem.ClaimMapViews
import Derived.JoinedTies
import Derived.KernelRfl
namespace Go.Proofs.YtighjjielkdafaaDoor
/- THE CELL 'sum', in the pinned program and in every row, IS THE sha256 OF THE DUMP (.gsa) THAT YtighjjielkdafaaDoorProg.lean LOADS. Nothing in Lean hashes anything: it is a label: what it is worth is what the hold of that sum in a sandbox is worth. -/
noncomputable def Tryd.pinned : Pinned := { name := "ytighjjielkdafaadoor", sum := "feb38e2278dd34b3dbbc260f6542e12c7182b4a1704614fb8adc49a7eef7d1cb", checked := Tryd.checked }
namespace Rows
def none {H : Type} : Left H := { results := [], args := [] }

/- WHAT THE LISTED PACKAGE-LEVEL VARIABLES READ AS WHEN THE CALL BEGINS. Each datum BY PROGRAM (the guide's laid-datum.mjs) off the statement by which the dump's own 'gosem.cut.vars' lays the variable. In a bare row this is a premise. The card (YtighjjielkdafaaDoorCards.lean) ties it to the program's text. -/
def laid_keystone_digest_k {H : Type} : DataW H := .agg [.lit (.int .u32 1116352408), .lit (.int .u32 1899447441), .lit (.int .u32 3049323471), .lit (.int .u32 3921009573), .lit (.int .u32 961987163), .lit (.int .u32 1508970993), .lit (.int .u32 2453635748), .lit (.int .u32 2870763221), .lit (.int .u32 3624381080), .lit (.int .u32 310598401), .lit (.int .u32 607225278), .lit (.int .u32 1426881987), .lit (.int .u32 1925078388), .lit (.int .u32 2162078206), .lit (.int .u32 2614888103), .lit (.int .u32 3248222580), .lit (.int .u32 3835390401), .lit (.int .u32 4022224774), .lit (.int .u32 264347078), .lit (.int .u32 604807628), .lit (.int .u32 770255983), .lit (.int .u32 1249150122), .lit (.int .u32 1555081692), .lit (.int .u32 1996064986), .lit (.int .u32 2554220882), .lit (.int .u32 2821834349), .lit (.int .u32 2952996808), .lit (.int .u32 3210313671), .lit (.int .u32 3336571891), .lit (.int .u32 3584528711), .lit (.int .u32 113926993), .lit (.int .u32 338241895), .lit (.int .u32 666307205), .lit (.int .u32 773529912), .lit (.int .u32 1294757372), .lit (.int .u32 1396182291), .lit (.int .u32 1695183700), .lit (.int .u32 1986661051), .lit (.int .u32 2177026350), .lit (.int .u32 2456956037), .lit (.int .u32 2730485921), .lit (.int .u32 2820302411), .lit (.int .u32 3259730800), .lit (.int .u32 3345764771), .lit (.int .u32 3516065817), .lit (.int .u32 3600352804), .lit (.int .u32 4094571909), .lit (.int .u32 275423344), .lit (.int .u32 430227734), .lit (.int .u32 506948616), .lit (.int .u32 659060556), .lit (.int .u32 883997877), .lit (.int .u32 958139571), .lit (.int .u32 1322822218), .lit (.int .u32 1537002063), .lit (.int .u32 1747873779), .lit (.int .u32 1955562222), .lit (.int .u32 2024104815), .lit (.int .u32 2227730452), .lit (.int .u32 2361852424), .lit (.int .u32 2428436474), .lit (.int .u32 2756734187), .lit (.int .u32 3204031479), .lit (.int .u32 3329325298)]

/-- 'keystonelaw02.DigestSums': WHATEVER THE INPUT: true; the input reads as it did. -/
def digestSumsSpec : ChangeSpec := { name := "digestSums", fn := fun _ => fun
  | [d] => { results := [.lit (.bool true)], args := [d] }
  | _ => none }
def digestSumsRow : OpenClaim := { program := "ytighjjielkdafaadoor", sum := "feb38e2278dd34b3dbbc260f6542e12c7182b4a1704614fb8adc49a7eef7d1cb", func := "keystone/keystonelaw02.DigestSums", spec := "digestSums", named := ["keystone/digest.k"], apart := false, laid := [("keystone/digest.k", laid_keystone_digest_k)] }
def DigestSumsSaid : Prop := digestSumsRow.holds Tryd.pinned (OpenSpec.ofChange digestSumsSpec)

/-- ITS FALSE NEIGHBOUR: 'it returns false'. Refute it at one input. -/
def digestSumsWrong : ChangeSpec := { name := "digestSums", fn := fun _ => fun
  | [d] => { results := [.lit (.bool false)], args := [d] }
  | _ => none }
def DigestSumsWrongFalsely : Prop := digestSumsRow.holds Tryd.pinned (OpenSpec.ofChange digestSumsWrong)

/-- 'keystonelaw02.DigestEnds': WHATEVER THE INPUT: true; the input reads as it did. -/
def digestEndsSpec : ChangeSpec := { name := "digestEnds", fn := fun _ => fun
  | [d1, d2] => { results := [.lit (.bool true)], args := [d1, d2] }
  | _ => none }
def digestEndsRow : OpenClaim := { program := "ytighjjielkdafaadoor", sum := "feb38e2278dd34b3dbbc260f6542e12c7182b4a1704614fb8adc49a7eef7d1cb", func := "keystone/keystonelaw02.DigestEnds", spec := "digestEnds", named := ["keystone/digest.k"], apart := false, laid := [("keystone/digest.k", laid_keystone_digest_k)] }
def DigestEndsSaid : Prop := digestEndsRow.holds Tryd.pinned (OpenSpec.ofChange digestEndsSpec)

/-- ITS FALSE NEIGHBOUR: 'it returns false'. Refute it at one input. -/
def digestEndsWrong : ChangeSpec := { name := "digestEnds", fn := fun _ => fun
  | [d1, d2] => { results := [.lit (.bool false)], args := [d1, d2] }
  | _ => none }
def DigestEndsWrongFalsely : Prop := digestEndsRow.holds Tryd.pinned (OpenSpec.ofChange digestEndsWrong)

/-- 'keystonelaw02.DigestPairs': WHATEVER THE INPUT: true; the input reads as it did. -/
def digestPairsSpec : ChangeSpec := { name := "digestPairs", fn := fun _ => fun
  | [d1, d2] => { results := [.lit (.bool true)], args := [d1, d2] }
  | _ => none }
def digestPairsRow : OpenClaim := { program := "ytighjjielkdafaadoor", sum := "feb38e2278dd34b3dbbc260f6542e12c7182b4a1704614fb8adc49a7eef7d1cb", func := "keystone/keystonelaw02.DigestPairs", spec := "digestPairs", named := ["keystone/digest.k"], apart := false, laid := [("keystone/digest.k", laid_keystone_digest_k)] }
def DigestPairsSaid : Prop := digestPairsRow.holds Tryd.pinned (OpenSpec.ofChange digestPairsSpec)

/-- ITS FALSE NEIGHBOUR: 'it returns false'. Refute it at one input. -/
def digestPairsWrong : ChangeSpec := { name := "digestPairs", fn := fun _ => fun
  | [d1, d2] => { results := [.lit (.bool false)], args := [d1, d2] }
  | _ => none }
def DigestPairsWrongFalsely : Prop := digestPairsRow.holds Tryd.pinned (OpenSpec.ofChange digestPairsWrong)

/-- 'keystonelaw07.SignJoins': WHATEVER THE INPUT: true; the input reads as it did. -/
def signJoinsSpec : ChangeSpec := { name := "signJoins", fn := fun _ => fun
  | [d1, d2] => { results := [.lit (.bool true)], args := [d1, d2] }
  | _ => none }
def signJoinsRow : OpenClaim := { program := "ytighjjielkdafaadoor", sum := "feb38e2278dd34b3dbbc260f6542e12c7182b4a1704614fb8adc49a7eef7d1cb", func := "keystone/keystonelaw07.SignJoins", spec := "signJoins", named := ["keystone/digest.k"], apart := false, laid := [("keystone/digest.k", laid_keystone_digest_k)] }
def SignJoinsSaid : Prop := signJoinsRow.holds Tryd.pinned (OpenSpec.ofChange signJoinsSpec)

/-- ITS FALSE NEIGHBOUR: 'it returns false'. Refute it at one input. -/
def signJoinsWrong : ChangeSpec := { name := "signJoins", fn := fun _ => fun
  | [d1, d2] => { results := [.lit (.bool false)], args := [d1, d2] }
  | _ => none }
def SignJoinsWrongFalsely : Prop := signJoinsRow.holds Tryd.pinned (OpenSpec.ofChange signJoinsWrong)

/-- 'keystonelaw07.SignTags': WHATEVER THE INPUT: true; the input reads as it did. -/
def signTagsSpec : ChangeSpec := { name := "signTags", fn := fun _ => fun
  | [d1, d2, d3, d4] => { results := [.lit (.bool true)], args := [d1, d2, d3, d4] }
  | _ => none }
def signTagsRow : OpenClaim := { program := "ytighjjielkdafaadoor", sum := "feb38e2278dd34b3dbbc260f6542e12c7182b4a1704614fb8adc49a7eef7d1cb", func := "keystone/keystonelaw07.SignTags", spec := "signTags", named := ["keystone/digest.k"], apart := false, laid := [("keystone/digest.k", laid_keystone_digest_k)] }
def SignTagsSaid : Prop := signTagsRow.holds Tryd.pinned (OpenSpec.ofChange signTagsSpec)

/-- ITS FALSE NEIGHBOUR: 'it returns false'. Refute it at one input. -/
def signTagsWrong : ChangeSpec := { name := "signTags", fn := fun _ => fun
  | [d1, d2, d3, d4] => { results := [.lit (.bool false)], args := [d1, d2, d3, d4] }
  | _ => none }
def SignTagsWrongFalsely : Prop := signTagsRow.holds Tryd.pinned (OpenSpec.ofChange signTagsWrong)

/-- 'keystonelaw03.MerkleWider': WHATEVER THE INPUT: true; the input reads as it did. -/
def merkleWiderSpec : ChangeSpec := { name := "merkleWider", fn := fun _ => fun
  | [d1, d2] => { results := [.lit (.bool true)], args := [d1, d2] }
  | _ => none }
def merkleWiderRow : OpenClaim := { program := "ytighjjielkdafaadoor", sum := "feb38e2278dd34b3dbbc260f6542e12c7182b4a1704614fb8adc49a7eef7d1cb", func := "keystone/keystonelaw03.MerkleWider", spec := "merkleWider", named := ["keystone/digest.k"], apart := false, laid := [("keystone/digest.k", laid_keystone_digest_k)] }
def MerkleWiderSaid : Prop := merkleWiderRow.holds Tryd.pinned (OpenSpec.ofChange merkleWiderSpec)

/-- ITS FALSE NEIGHBOUR: 'it returns false'. Refute it at one input. -/
def merkleWiderWrong : ChangeSpec := { name := "merkleWider", fn := fun _ => fun
  | [d1, d2] => { results := [.lit (.bool false)], args := [d1, d2] }
  | _ => none }
def MerkleWiderWrongFalsely : Prop := merkleWiderRow.holds Tryd.pinned (OpenSpec.ofChange merkleWiderWrong)

/-- 'keystonelaw03.MerkleChunks': WHATEVER THE INPUT: true; the input reads as it did. -/
def merkleChunksSpec : ChangeSpec := { name := "merkleChunks", fn := fun _ => fun
  | [d1, d2] => { results := [.lit (.bool true)], args := [d1, d2] }
  | _ => none }
def merkleChunksRow : OpenClaim := { program := "ytighjjielkdafaadoor", sum := "feb38e2278dd34b3dbbc260f6542e12c7182b4a1704614fb8adc49a7eef7d1cb", func := "keystone/keystonelaw03.MerkleChunks", spec := "merkleChunks", unfollowed := true, recurses := true, named := ["keystone/digest.k"], apart := false, laid := [("keystone/digest.k", laid_keystone_digest_k)] }
def MerkleChunksSaid : Prop := merkleChunksRow.holds Tryd.pinned (OpenSpec.ofChange merkleChunksSpec)

/-- ITS FALSE NEIGHBOUR: 'it returns false'. Refute it at one input. -/
def merkleChunksWrong : ChangeSpec := { name := "merkleChunks", fn := fun _ => fun
  | [d1, d2] => { results := [.lit (.bool false)], args := [d1, d2] }
  | _ => none }
def MerkleChunksWrongFalsely : Prop := merkleChunksRow.holds Tryd.pinned (OpenSpec.ofChange merkleChunksWrong)

/-- 'keystonelaw03.MerkleTrees': WHATEVER THE INPUT: true; the input reads as it did. -/
def merkleTreesSpec : ChangeSpec := { name := "merkleTrees", fn := fun _ => fun
  | [d1, d2, d3] => { results := [.lit (.bool true)], args := [d1, d2, d3] }
  | _ => none }
def merkleTreesRow : OpenClaim := { program := "ytighjjielkdafaadoor", sum := "feb38e2278dd34b3dbbc260f6542e12c7182b4a1704614fb8adc49a7eef7d1cb", func := "keystone/keystonelaw03.MerkleTrees", spec := "merkleTrees", recurses := true, named := ["keystone/digest.k"], apart := false, laid := [("keystone/digest.k", laid_keystone_digest_k)] }
def MerkleTreesSaid : Prop := merkleTreesRow.holds Tryd.pinned (OpenSpec.ofChange merkleTreesSpec)

/-- ITS FALSE NEIGHBOUR: 'it returns false'. Refute it at one input. -/
def merkleTreesWrong : ChangeSpec := { name := "merkleTrees", fn := fun _ => fun
  | [d1, d2, d3] => { results := [.lit (.bool false)], args := [d1, d2, d3] }
  | _ => none }
def MerkleTreesWrongFalsely : Prop := merkleTreesRow.holds Tryd.pinned (OpenSpec.ofChange merkleTreesWrong)

/-- 'keystonelaw03.MerkleBranches': WHATEVER THE INPUT: true; the input reads as it did. -/
def merkleBranchesSpec : ChangeSpec := { name := "merkleBranches", fn := fun _ => fun
  | [d1, d2, d3, d4, d5] => { results := [.lit (.bool true)], args := [d1, d2, d3, d4, d5] }
  | _ => none }
def merkleBranchesRow : OpenClaim := { program := "ytighjjielkdafaadoor", sum := "feb38e2278dd34b3dbbc260f6542e12c7182b4a1704614fb8adc49a7eef7d1cb", func := "keystone/keystonelaw03.MerkleBranches", spec := "merkleBranches", recurses := true, named := ["keystone/digest.k"], apart := false, laid := [("keystone/digest.k", laid_keystone_digest_k)] }
def MerkleBranchesSaid : Prop := merkleBranchesRow.holds Tryd.pinned (OpenSpec.ofChange merkleBranchesSpec)

/-- ITS FALSE NEIGHBOUR: 'it returns false'. Refute it at one input. -/
def merkleBranchesWrong : ChangeSpec := { name := "merkleBranches", fn := fun _ => fun
  | [d1, d2, d3, d4, d5] => { results := [.lit (.bool false)], args := [d1, d2, d3, d4, d5] }
  | _ => none }
def MerkleBranchesWrongFalsely : Prop := merkleBranchesRow.holds Tryd.pinned (OpenSpec.ofChange merkleBranchesWrong)

/-- 'keystonelaw03.MerkleProves': WHATEVER THE INPUT: true; the input reads as it did. -/
def merkleProvesSpec : ChangeSpec := { name := "merkleProves", fn := fun _ => fun
  | [d1, d2, d3, d4] => { results := [.lit (.bool true)], args := [d1, d2, d3, d4] }
  | _ => none }
def merkleProvesRow : OpenClaim := { program := "ytighjjielkdafaadoor", sum := "feb38e2278dd34b3dbbc260f6542e12c7182b4a1704614fb8adc49a7eef7d1cb", func := "keystone/keystonelaw03.MerkleProves", spec := "merkleProves", named := ["keystone/digest.k"], apart := false, laid := [("keystone/digest.k", laid_keystone_digest_k)] }
def MerkleProvesSaid : Prop := merkleProvesRow.holds Tryd.pinned (OpenSpec.ofChange merkleProvesSpec)

/-- ITS FALSE NEIGHBOUR: 'it returns false'. Refute it at one input. -/
def merkleProvesWrong : ChangeSpec := { name := "merkleProves", fn := fun _ => fun
  | [d1, d2, d3, d4] => { results := [.lit (.bool false)], args := [d1, d2, d3, d4] }
  | _ => none }
def MerkleProvesWrongFalsely : Prop := merkleProvesRow.holds Tryd.pinned (OpenSpec.ofChange merkleProvesWrong)

/- THE SECOND FORM. 'bulk': how many values and letters a reading holds, each counted each time it is reached (what is shared counts as often as it is met; a slice's spare places count too). A statement '..UptoSaid' is the law's where the arguments, and the package variables that the reading takes, are together of bulk at most 1048576: NARROWER than '..Said'. Prove '..Said' where nothing that the law and all that it calls make is longer than what came in: it says more and counts as full. Else prove '..UptoSaid'. A law counts once. -/
mutual
def uptoBulk {H : Type} : DataW H → Nat
  | .lit (.string bytes) => bytes.length + 1
  | .lit _ => 1
  | .nil => 1
  | .ptr d => uptoBulk d + 1
  | .slice elems spare => uptoBulkAll elems + uptoBulkAll spare + 1
  | .agg parts => uptoBulkAll parts + 1
  | .iface _ d => uptoBulk d + 1
  | .map entries => uptoBulkEntries entries + 1
  | .held _ => 1
def uptoBulkAll {H : Type} : List (DataW H) → Nat
  | [] => 0
  | d :: r => uptoBulk d + uptoBulkAll r
def uptoBulkEntries {H : Type} : List (Lit × DataW H) → Nat
  | [] => 0
  | x :: r => uptoBulkEntry x + uptoBulkEntries r
def uptoBulkEntry {H : Type} : Lit × DataW H → Nat
  | (.string bytes, d) => bytes.length + uptoBulk d + 1
  | (_, d) => uptoBulk d + 1
 end
def uptoSmall : (H : Type) → List (DataW H) → Bool := fun _ ds => decide (uptoBulkAll ds ≤ 1048576)
def OpenSpec.upto (s : _root_.Go.ChangeSpec) : _root_.Go.OpenSpec := { _root_.Go.OpenSpec.ofChange s with cond := some uptoSmall }

/-- 'keystonelaw02.DigestSums', WHERE WHAT IT READS IS OF BULK AT MOST 1048576: true; the input reads as it did. -/
def digestSumsUptoRow : OpenClaim := { program := "ytighjjielkdafaadoor", sum := "feb38e2278dd34b3dbbc260f6542e12c7182b4a1704614fb8adc49a7eef7d1cb", func := "keystone/keystonelaw02.DigestSums", spec := "digestSums", named := ["keystone/digest.k"], apart := false, laid := [("keystone/digest.k", laid_keystone_digest_k)], narrowed := true }
def DigestSumsUptoSaid : Prop := digestSumsUptoRow.holds Tryd.pinned (OpenSpec.upto digestSumsSpec)

/-- 'keystonelaw02.DigestEnds', WHERE WHAT IT READS IS OF BULK AT MOST 1048576: true; the input reads as it did. -/
def digestEndsUptoRow : OpenClaim := { program := "ytighjjielkdafaadoor", sum := "feb38e2278dd34b3dbbc260f6542e12c7182b4a1704614fb8adc49a7eef7d1cb", func := "keystone/keystonelaw02.DigestEnds", spec := "digestEnds", named := ["keystone/digest.k"], apart := false, laid := [("keystone/digest.k", laid_keystone_digest_k)], narrowed := true }
def DigestEndsUptoSaid : Prop := digestEndsUptoRow.holds Tryd.pinned (OpenSpec.upto digestEndsSpec)

/-- 'keystonelaw02.DigestPairs', WHERE WHAT IT READS IS OF BULK AT MOST 1048576: true; the input reads as it did. -/
def digestPairsUptoRow : OpenClaim := { program := "ytighjjielkdafaadoor", sum := "feb38e2278dd34b3dbbc260f6542e12c7182b4a1704614fb8adc49a7eef7d1cb", func := "keystone/keystonelaw02.DigestPairs", spec := "digestPairs", named := ["keystone/digest.k"], apart := false, laid := [("keystone/digest.k", laid_keystone_digest_k)], narrowed := true }
def DigestPairsUptoSaid : Prop := digestPairsUptoRow.holds Tryd.pinned (OpenSpec.upto digestPairsSpec)

/-- 'keystonelaw07.SignJoins', WHERE WHAT IT READS IS OF BULK AT MOST 1048576: true; the input reads as it did. -/
def signJoinsUptoRow : OpenClaim := { program := "ytighjjielkdafaadoor", sum := "feb38e2278dd34b3dbbc260f6542e12c7182b4a1704614fb8adc49a7eef7d1cb", func := "keystone/keystonelaw07.SignJoins", spec := "signJoins", named := ["keystone/digest.k"], apart := false, laid := [("keystone/digest.k", laid_keystone_digest_k)], narrowed := true }
def SignJoinsUptoSaid : Prop := signJoinsUptoRow.holds Tryd.pinned (OpenSpec.upto signJoinsSpec)

/-- 'keystonelaw07.SignTags', WHERE WHAT IT READS IS OF BULK AT MOST 1048576: true; the input reads as it did. -/
def signTagsUptoRow : OpenClaim := { program := "ytighjjielkdafaadoor", sum := "feb38e2278dd34b3dbbc260f6542e12c7182b4a1704614fb8adc49a7eef7d1cb", func := "keystone/keystonelaw07.SignTags", spec := "signTags", named := ["keystone/digest.k"], apart := false, laid := [("keystone/digest.k", laid_keystone_digest_k)], narrowed := true }
def SignTagsUptoSaid : Prop := signTagsUptoRow.holds Tryd.pinned (OpenSpec.upto signTagsSpec)

/-- 'keystonelaw03.MerkleWider', WHERE WHAT IT READS IS OF BULK AT MOST 1048576: true; the input reads as it did. -/
def merkleWiderUptoRow : OpenClaim := { program := "ytighjjielkdafaadoor", sum := "feb38e2278dd34b3dbbc260f6542e12c7182b4a1704614fb8adc49a7eef7d1cb", func := "keystone/keystonelaw03.MerkleWider", spec := "merkleWider", named := ["keystone/digest.k"], apart := false, laid := [("keystone/digest.k", laid_keystone_digest_k)], narrowed := true }
def MerkleWiderUptoSaid : Prop := merkleWiderUptoRow.holds Tryd.pinned (OpenSpec.upto merkleWiderSpec)

/-- 'keystonelaw03.MerkleChunks', WHERE WHAT IT READS IS OF BULK AT MOST 1048576: true; the input reads as it did. -/
def merkleChunksUptoRow : OpenClaim := { program := "ytighjjielkdafaadoor", sum := "feb38e2278dd34b3dbbc260f6542e12c7182b4a1704614fb8adc49a7eef7d1cb", func := "keystone/keystonelaw03.MerkleChunks", spec := "merkleChunks", unfollowed := true, recurses := true, named := ["keystone/digest.k"], apart := false, laid := [("keystone/digest.k", laid_keystone_digest_k)], narrowed := true }
def MerkleChunksUptoSaid : Prop := merkleChunksUptoRow.holds Tryd.pinned (OpenSpec.upto merkleChunksSpec)

/-- 'keystonelaw03.MerkleTrees', WHERE WHAT IT READS IS OF BULK AT MOST 1048576: true; the input reads as it did. -/
def merkleTreesUptoRow : OpenClaim := { program := "ytighjjielkdafaadoor", sum := "feb38e2278dd34b3dbbc260f6542e12c7182b4a1704614fb8adc49a7eef7d1cb", func := "keystone/keystonelaw03.MerkleTrees", spec := "merkleTrees", recurses := true, named := ["keystone/digest.k"], apart := false, laid := [("keystone/digest.k", laid_keystone_digest_k)], narrowed := true }
def MerkleTreesUptoSaid : Prop := merkleTreesUptoRow.holds Tryd.pinned (OpenSpec.upto merkleTreesSpec)

/-- 'keystonelaw03.MerkleBranches', WHERE WHAT IT READS IS OF BULK AT MOST 1048576: true; the input reads as it did. -/
def merkleBranchesUptoRow : OpenClaim := { program := "ytighjjielkdafaadoor", sum := "feb38e2278dd34b3dbbc260f6542e12c7182b4a1704614fb8adc49a7eef7d1cb", func := "keystone/keystonelaw03.MerkleBranches", spec := "merkleBranches", recurses := true, named := ["keystone/digest.k"], apart := false, laid := [("keystone/digest.k", laid_keystone_digest_k)], narrowed := true }
def MerkleBranchesUptoSaid : Prop := merkleBranchesUptoRow.holds Tryd.pinned (OpenSpec.upto merkleBranchesSpec)

/-- 'keystonelaw03.MerkleProves', WHERE WHAT IT READS IS OF BULK AT MOST 1048576: true; the input reads as it did. -/
def merkleProvesUptoRow : OpenClaim := { program := "ytighjjielkdafaadoor", sum := "feb38e2278dd34b3dbbc260f6542e12c7182b4a1704614fb8adc49a7eef7d1cb", func := "keystone/keystonelaw03.MerkleProves", spec := "merkleProves", named := ["keystone/digest.k"], apart := false, laid := [("keystone/digest.k", laid_keystone_digest_k)], narrowed := true }
def MerkleProvesUptoSaid : Prop := merkleProvesUptoRow.holds Tryd.pinned (OpenSpec.upto merkleProvesSpec)

end Rows
end Go.Proofs.YtighjjielkdafaaDoor
