/- Behind a commit whatever was said in the epoch that it ended is refused, so is what is of an epoch that is not yet, and what is of the one that goes on is taken: the law HubStale returns true for every input, and what was handed in reads behind the call as before. The condition: wire.classes reads as the program's text lays it, which the card ties to that text. -/
import Derived.Test.YtcfbmglhikjahaaDoorStaleRow
import Derived.Test.YtcfbmglhikjahaaDoorCards
import Derived.Test.YtcfbmglhikjahaaDoorTie
import Derived.SevenTiedAt
set_option linter.unusedVariables false
namespace Go.Proofs.YtcfbmglhikjahaaDoor
open Go
theorem hubStale_card : Rows.HubStaleCardSaid :=
  Claim7.holds_tied_plain_at .later [] [.data] true (true, "be99ef1ce38322a9d9710c496ecdca00432f0d7ecebe1e4670e4c51304c68d4c") false
    hubStale.proved (fun _ h => by cases h) (by kernel_rfl) (fun _ h => by cases h) hubStale_row_tie rfl ⟨rfl, rfl⟩ (by kernel_rfl) rfl
    (fun f fn hf hfn => by
      obtain rfl : f = 4 := Option.some.inj ((show Tryd.prog.funcNamed "sodality/sodalitylaw22.HubStale" = some 4 by kernel_rfl).symm.trans hf) |>.symm
      obtain rfl : fn = Tryd.f4 := (Option.some.inj (Tryd.func4.symm.trans hfn)).symm
      exact ⟨by kernel_rfl, fun j t ht => by
        rw [Tryd.params4] at ht
        have h3 : t = 5 := by
          rcases j with _ | _ | _ | j
          · simpa using ht.symm
          · simpa using ht.symm
          · simpa using ht.symm
          · simp at ht
        subst h3
        exact (show Tryd.prog.wantsStandIn 5 = false by kernel_rfl)⟩)
    (by kernel_rfl)
#print axioms hubStale_card
end Go.Proofs.YtcfbmglhikjahaaDoor
