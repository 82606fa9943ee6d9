/-
  
-/
import Derived.Test.YtbeokgkcndcahaaGreatDoorCards
import Derived.SevenTiedAt
import Derived.KernelRfl
set_option linter.all false
namespace Go.Proofs.YtbeokgkcndcahaaGreatDoor
open Go
theorem card_wf : Rows.nodeQuietRow.wfByText (OpenSpec.ofChange Rows.nodeQuietSpec) = true := by kernel_rfl
end Go.Proofs.YtbeokgkcndcahaaGreatDoor
