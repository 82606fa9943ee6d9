/-
  The row's closed facts, the great ones each by itself.
-/
import Derived.Test.YtbeokgkcndcahaaGreatDoorRows
import Derived.JoinedCond
import Derived.KernelRfl
set_option linter.all false
set_option maxRecDepth 100000
namespace Go.Proofs.YtbeokgkcndcahaaGreatDoor.quiet
theorem f_inPlace : Tryz.pinned.checked.prog.inPlace 3 = ["maps.clone", "internal/bytealg.MakeNoZero"] := by kernel_rfl
theorem f_unfollowed : Tryz.pinned.checked.prog.unfollowed 3 = true := by kernel_rfl
theorem f_recurses : Tryz.pinned.checked.prog.recurses 3 = true := by kernel_rfl
theorem f_named : Tryz.pinned.checked.prog.varsNamed 3 = ["starling/digest.constants", "math/bits.deBruijn64tab"] := by kernel_rfl
theorem f_mayEnter : Tryz.pinned.checked.prog.mayEnter = true := by kernel_rfl
theorem f_stops : Tryz.pinned.checked.prog.stops = [] := by kernel_rfl
theorem f_heard : Tryz.pinned.checked.prog.stopsHeard = true := by kernel_rfl
theorem f_laidOut : laidOutB Tryz.pinned.checked.prog = true := by kernel_rfl
theorem f_lifts : Tryz.pinned.checked.prog.liftsFinal = Rows.nodeQuietRow.lifted := by kernel_rfl
end Go.Proofs.YtbeokgkcndcahaaGreatDoor.quiet
