/-
  DERIVED. GIVEN WITH THE SEED: THE CARDS: each row of YtcfbmglhikjahaaDoorRows.lean that lists a variable, with what it lists TIED to the program's text (the seventh form; the later family's looks); each row that meets fmt, with fmt's text TOLD by the authors' own Lean function (tested against real Go, not proved from fmt's source: count such statements apart). THE CARD IS WHAT COUNTS. Prove the row's statement (the work); the ties are given (YtcfbmglhikjahaaDoorTie.lean); close each card by the builder's one call (the guide's Derived/Test/ToyasCard.lean, 'card_holds'). Laid BY PROGRAM, IN A SANDBOX (cutbox-door.mjs). By AI agents, Wed Nov 11 2026. No macro, syntax, notation, axiom, sorry.
-/
import Derived.Test.YtcfbmglhikjahaaDoorRows
import GoSem.ClaimSeven
namespace Go.Proofs.YtcfbmglhikjahaaDoor
namespace Rows

/-- THE TIED CARD OF 'sodalitylaw22.HubPacks'. -/
def hubPacksCard : Claim7 := { stood := { row := hubPacksRow, standIns := [], harness := (true, "be99ef1ce38322a9d9710c496ecdca00432f0d7ecebe1e4670e4c51304c68d4c"), looks := false }, kinds := [], alts := [], laidByText := true, laidKinds := [.data], laidTests := true, laidLooks := .later }
def HubPacksCardSaid : Prop := Claim7.holds Tryd.pinned (.plain (OpenSpec.ofChange hubPacksSpec)) hubPacksCard

/-- THE TIED CARD OF 'sodalitylaw22.HubStale'. -/
def hubStaleCard : Claim7 := { stood := { row := hubStaleRow, standIns := [], harness := (true, "be99ef1ce38322a9d9710c496ecdca00432f0d7ecebe1e4670e4c51304c68d4c"), looks := false }, kinds := [], alts := [], laidByText := true, laidKinds := [.data], laidTests := true, laidLooks := .later }
def HubStaleCardSaid : Prop := Claim7.holds Tryd.pinned (.plain (OpenSpec.ofChange hubStaleSpec)) hubStaleCard

/-- THE TIED CARD OF 'sodalitylaw22.HubOrder'. -/
def hubOrderCard : Claim7 := { stood := { row := hubOrderRow, standIns := [], harness := (true, "be99ef1ce38322a9d9710c496ecdca00432f0d7ecebe1e4670e4c51304c68d4c"), looks := false }, kinds := [], alts := [], laidByText := true, laidKinds := [.data], laidTests := true, laidLooks := .later }
def HubOrderCardSaid : Prop := Claim7.holds Tryd.pinned (.plain (OpenSpec.ofChange hubOrderSpec)) hubOrderCard

/-- THE TIED CARD OF 'sodalitylaw22.HubPlays'. -/
def hubPlaysCard : Claim7 := { stood := { row := hubPlaysRow, standIns := [], harness := (true, "be99ef1ce38322a9d9710c496ecdca00432f0d7ecebe1e4670e4c51304c68d4c"), looks := false }, kinds := [], alts := [], laidByText := true, laidKinds := [.data], laidTests := true, laidLooks := .later }
def HubPlaysCardSaid : Prop := Claim7.holds Tryd.pinned (.plain (OpenSpec.ofChange hubPlaysSpec)) hubPlaysCard

/-- THE SECOND FORM's CARD OF 'sodalitylaw22.HubPacks'. -/
def hubPacksUptoCard : Claim7 := { stood := { row := hubPacksUptoRow, standIns := [], harness := (true, "be99ef1ce38322a9d9710c496ecdca00432f0d7ecebe1e4670e4c51304c68d4c"), looks := false }, kinds := [], alts := [], laidByText := true, laidKinds := [.data], laidTests := true, laidLooks := .later }
def HubPacksUptoCardSaid : Prop := Claim7.holds Tryd.pinned (.plain (OpenSpec.upto hubPacksSpec)) hubPacksUptoCard

/-- THE SECOND FORM's CARD OF 'sodalitylaw22.HubStale'. -/
def hubStaleUptoCard : Claim7 := { stood := { row := hubStaleUptoRow, standIns := [], harness := (true, "be99ef1ce38322a9d9710c496ecdca00432f0d7ecebe1e4670e4c51304c68d4c"), looks := false }, kinds := [], alts := [], laidByText := true, laidKinds := [.data], laidTests := true, laidLooks := .later }
def HubStaleUptoCardSaid : Prop := Claim7.holds Tryd.pinned (.plain (OpenSpec.upto hubStaleSpec)) hubStaleUptoCard

/-- THE SECOND FORM's CARD OF 'sodalitylaw22.HubOrder'. -/
def hubOrderUptoCard : Claim7 := { stood := { row := hubOrderUptoRow, standIns := [], harness := (true, "be99ef1ce38322a9d9710c496ecdca00432f0d7ecebe1e4670e4c51304c68d4c"), looks := false }, kinds := [], alts := [], laidByText := true, laidKinds := [.data], laidTests := true, laidLooks := .later }
def HubOrderUptoCardSaid : Prop := Claim7.holds Tryd.pinned (.plain (OpenSpec.upto hubOrderSpec)) hubOrderUptoCard

/-- THE SECOND FORM's CARD OF 'sodalitylaw22.HubPlays'. -/
def hubPlaysUptoCard : Claim7 := { stood := { row := hubPlaysUptoRow, standIns := [], harness := (true, "be99ef1ce38322a9d9710c496ecdca00432f0d7ecebe1e4670e4c51304c68d4c"), looks := false }, kinds := [], alts := [], laidByText := true, laidKinds := [.data], laidTests := true, laidLooks := .later }
def HubPlaysUptoCardSaid : Prop := Claim7.holds Tryd.pinned (.plain (OpenSpec.upto hubPlaysSpec)) hubPlaysUptoCard
end Rows
end Go.Proofs.YtcfbmglhikjahaaDoor
