/-
  The row's closed facts, all.
-/
import Derived.Test.YtbeokgkcndcahaaGreatDoorQ25
set_option linter.all false
set_option maxRecDepth 100000
namespace Go.Proofs.YtbeokgkcndcahaaGreatDoor.quiet
theorem closed : joinedFacts Tryz.pinned.checked.prog 3 Tryz.f3 Rows.nodeQuietSpec Rows.nodeQuietRow = true := by
  unfold joinedFacts
  rw [f_inPlace, f_unfollowed, f_recurses, f_named, f_mayEnter, f_stops, f_heard, f_laidOut, f_lifts]
  kernel_rfl
end Go.Proofs.YtbeokgkcndcahaaGreatDoor.quiet
