/- Packages that were left at a hub are fetched as they were, each once, in whatever order: the law HubPacks returns true for every input, and what was handed in reads behind the call as before. The condition: wire.classes reads as the program's text lays it, which the card ties to that text. -/
import Derived.Test.YtcfbmglhikjahaaDoorPacksRow
import Derived.Test.YtcfbmglhikjahaaDoorCards
import Derived.Test.YtcfbmglhikjahaaDoorTie
import Derived.SevenTiedAt
set_option linter.unusedVariables false
namespace Go.Proofs.YtcfbmglhikjahaaDoor
open Go
theorem hubPacks_card : Rows.HubPacksCardSaid :=
  Claim7.holds_tied_plain_at .later [] [.data] true (true, "be99ef1ce38322a9d9710c496ecdca00432f0d7ecebe1e4670e4c51304c68d4c") false
    hubPacks.proved (fun _ h => by cases h) (by kernel_rfl) (fun _ h => by cases h) hubPacks_row_tie rfl ⟨rfl, rfl⟩ (by kernel_rfl) rfl
    (fun f fn hf hfn => by
      obtain rfl : f = 3 := Option.some.inj ((show Tryd.prog.funcNamed "sodality/sodalitylaw22.HubPacks" = some 3 by kernel_rfl).symm.trans hf) |>.symm
      obtain rfl : fn = Tryd.f3 := (Option.some.inj (Tryd.func3.symm.trans hfn)).symm
      exact ⟨by kernel_rfl, fun j t ht => by
        rw [Tryd.params3] at ht
        have h3 : t = 22 ∨ t = 23 := by
          rcases j with _ | _ | j
          · left; simpa using ht.symm
          · right; simpa using ht.symm
          · simp at ht
        rcases h3 with rfl | rfl
        · exact (show Tryd.prog.wantsStandIn 22 = false by kernel_rfl)
        · exact (show Tryd.prog.wantsStandIn 23 = false by kernel_rfl)⟩)
    (by kernel_rfl)
#print axioms hubPacks_card
end Go.Proofs.YtcfbmglhikjahaaDoor
