/-
  
-/
import Derived.Test.YtbeokgkcndcahaaGreatDoorCards
import Derived.Test.YtbeokgkcndcahaaGreatDoorTie
import Derived.SevenTiedAt
import Derived.Test.YtbeokgkcndcahaaGreatDoorQ00
import Derived.Test.YtbeokgkcndcahaaGreatDoorQ01
import Derived.Test.YtbeokgkcndcahaaGreatDoorQ02
import Derived.Test.YtbeokgkcndcahaaGreatDoorQ27
set_option linter.all false
namespace Go.Proofs.YtbeokgkcndcahaaGreatDoor
open Go
theorem card_of (f_holds : Rows.nodeQuietRow.holds Tryz.pinned (OpenSpec.ofChange Rows.nodeQuietSpec)) : Rows.NodeQuietCardSaid :=
  Claim7.holds_tied_plain_at .later [] [.data, .data] true (true, "5d7f59e154908ceae206355e4f3dc3e43850f93e9e84f6069c1605922be7c47d") true
    f_holds (fun _ h => by cases h) card_wf (fun _ h => by cases h) nodeQuiet_row_tie rfl ⟨rfl, rfl⟩ card_main rfl
    (fun f fn hf hfn => by
      obtain rfl : f = 3 := Option.some.inj (card_named.symm.trans hf) |>.symm
      obtain rfl : fn = Tryz.f3 := (Option.some.inj (Tryz.func3.symm.trans hfn)).symm
      exact ⟨card_looks, fun j t ht => by
        rw [Tryz.params3] at ht
        have h3 : t = 22 := by
          rcases j with _ | j
          · simpa using ht.symm
          · simp at ht
        subst h3
        exact card_stand⟩)
    card_goes
/-- THE CARD. -/
theorem nodeQuiet_card : Rows.NodeQuietCardSaid := card_of quiet.said
end Go.Proofs.YtbeokgkcndcahaaGreatDoor
