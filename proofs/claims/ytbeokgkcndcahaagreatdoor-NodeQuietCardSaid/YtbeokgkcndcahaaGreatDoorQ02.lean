/-
  
-/
import Derived.Test.YtbeokgkcndcahaaGreatDoorCards
import Derived.SevenTiedAt
import Derived.KernelRfl
set_option linter.all false
namespace Go.Proofs.YtbeokgkcndcahaaGreatDoor
open Go
theorem card_main : Tryz.pinned.checked.prog.mainIs = some (true, "5d7f59e154908ceae206355e4f3dc3e43850f93e9e84f6069c1605922be7c47d".toList) := by kernel_rfl
theorem card_looks : true = Tryz.pinned.checked.prog.looks [] := by kernel_rfl
theorem card_stand : Tryz.prog.wantsStandIn 22 = false := by kernel_rfl
theorem card_named : Tryz.prog.funcNamed "starling/starlinglaw20.NodeQuiet" = some 3 := by kernel_rfl
end Go.Proofs.YtbeokgkcndcahaaGreatDoor
