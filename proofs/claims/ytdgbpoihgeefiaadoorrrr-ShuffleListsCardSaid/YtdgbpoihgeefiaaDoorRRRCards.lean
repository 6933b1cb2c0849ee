/-
  DERIVED. GIVEN WITH THE SEED: THE CARDS: each row of YtdgbpoihgeefiaaDoorRRRRows.lean that lists a variable, with what it lists TIED to the program's text (the seventh form; the later family's looks); each row that meets fmt, with fmt's text TOLD by the authors' own Lean function (tested against real Go, not proved from fmt's source: count such statements apart). THE CARD IS WHAT COUNTS. Prove the row's statement (the work); the ties are given (YtdgbpoihgeefiaaDoorRRRTie.lean); close each card by the builder's one call (the guide's Derived/Test/ToyasCard.lean, 'card_holds'). Laid BY PROGRAM, IN A SANDBOX (cutbox-door.mjs). By AI agents, Wed Nov 11 2026. No macro, syntax, notation, axiom, sorry.
-/
import Derived.Test.YtdgbpoihgeefiaaDoorRRRRows
import GoSem.ClaimSeven
namespace Go.Proofs.YtdgbpoihgeefiaaDoorRRR
namespace Rows

/-- THE TIED CARD OF 'keystonelaw08.ShuffleIndex'. -/
def shuffleIndexCard : Claim7 := { stood := { row := shuffleIndexRow, standIns := [], harness := (true, "f122e2933d9be96caa9be7057dc5556007f645dff521ab10e16be0ce3c70c6a2"), looks := false }, kinds := [], alts := [], laidByText := true, laidKinds := [.data], laidTests := true, laidLooks := .later }
def ShuffleIndexCardSaid : Prop := Claim7.holds Tryd.pinned (.plain (OpenSpec.ofChange shuffleIndexSpec)) shuffleIndexCard

/-- THE TIED CARD OF 'keystonelaw08.ShuffleLists'. -/
def shuffleListsCard : Claim7 := { stood := { row := shuffleListsRow, standIns := [], harness := (true, "f122e2933d9be96caa9be7057dc5556007f645dff521ab10e16be0ce3c70c6a2"), looks := false }, kinds := [], alts := [], laidByText := true, laidKinds := [.data], laidTests := true, laidLooks := .later }
def ShuffleListsCardSaid : Prop := Claim7.holds Tryd.pinned (.plain (OpenSpec.ofChange shuffleListsSpec)) shuffleListsCard

/-- THE TIED CARD OF 'keystonelaw08.ShuffleOnce'. -/
def shuffleOnceCard : Claim7 := { stood := { row := shuffleOnceRow, standIns := [], harness := (true, "f122e2933d9be96caa9be7057dc5556007f645dff521ab10e16be0ce3c70c6a2"), looks := false }, kinds := [], alts := [], laidByText := true, laidKinds := [.data], laidTests := true, laidLooks := .later }
def ShuffleOnceCardSaid : Prop := Claim7.holds Tryd.pinned (.plain (OpenSpec.ofChange shuffleOnceSpec)) shuffleOnceCard

/-- THE SECOND FORM's CARD OF 'keystonelaw08.ShuffleIndex'. -/
def shuffleIndexUptoCard : Claim7 := { stood := { row := shuffleIndexUptoRow, standIns := [], harness := (true, "f122e2933d9be96caa9be7057dc5556007f645dff521ab10e16be0ce3c70c6a2"), looks := false }, kinds := [], alts := [], laidByText := true, laidKinds := [.data], laidTests := true, laidLooks := .later }
def ShuffleIndexUptoCardSaid : Prop := Claim7.holds Tryd.pinned (.plain (OpenSpec.upto shuffleIndexSpec)) shuffleIndexUptoCard

/-- THE SECOND FORM's CARD OF 'keystonelaw08.ShuffleLists'. -/
def shuffleListsUptoCard : Claim7 := { stood := { row := shuffleListsUptoRow, standIns := [], harness := (true, "f122e2933d9be96caa9be7057dc5556007f645dff521ab10e16be0ce3c70c6a2"), looks := false }, kinds := [], alts := [], laidByText := true, laidKinds := [.data], laidTests := true, laidLooks := .later }
def ShuffleListsUptoCardSaid : Prop := Claim7.holds Tryd.pinned (.plain (OpenSpec.upto shuffleListsSpec)) shuffleListsUptoCard

/-- THE SECOND FORM's CARD OF 'keystonelaw08.ShuffleOnce'. -/
def shuffleOnceUptoCard : Claim7 := { stood := { row := shuffleOnceUptoRow, standIns := [], harness := (true, "f122e2933d9be96caa9be7057dc5556007f645dff521ab10e16be0ce3c70c6a2"), looks := false }, kinds := [], alts := [], laidByText := true, laidKinds := [.data], laidTests := true, laidLooks := .later }
def ShuffleOnceUptoCardSaid : Prop := Claim7.holds Tryd.pinned (.plain (OpenSpec.upto shuffleOnceSpec)) shuffleOnceUptoCard
end Rows
end Go.Proofs.YtdgbpoihgeefiaaDoorRRR
