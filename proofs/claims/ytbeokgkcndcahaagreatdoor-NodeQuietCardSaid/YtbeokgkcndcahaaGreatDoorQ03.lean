/-
  Closed facts of the program.
-/
import Derived.Test.YtbeokgkcndcahaaGreatDoorRows
import Derived.ProofKit
import Derived.KernelRfl
set_option linter.all false
namespace Go.Proofs.YtbeokgkcndcahaaGreatDoor.quiet
open Go.RowKit
theorem own : ownKnob Tryz.prog.godebug = none := by kernel_rfl
theorem laidOut : laidOutB Tryz.prog = true := by kernel_rfl
end Go.Proofs.YtbeokgkcndcahaaGreatDoor.quiet
