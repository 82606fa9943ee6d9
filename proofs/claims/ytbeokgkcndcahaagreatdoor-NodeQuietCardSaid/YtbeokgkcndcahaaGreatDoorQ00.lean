/-
  
-/
import Derived.Test.YtbeokgkcndcahaaGreatDoorCards
import Derived.SevenTiedAt
import Derived.KernelRfl
set_option linter.all false
namespace Go.Proofs.YtbeokgkcndcahaaGreatDoor
open Go
/-- Where no function of the program goes, none that a call comes to does. -/
theorem goes_none {P : Program} (h : P.funcs.any Func.goes = false) (c : OpenClaim) (hs : c.start = .entering) : false = c.goesBy P := by
  have h1 : ∀ g : Nat, (P.funcs[g]?).any Func.goes = false := by
    intro g
    cases hg : P.funcs[g]? with
    | none => rfl
    | some fn =>
      obtain ⟨hlt, he⟩ := Array.getElem?_eq_some_iff.1 hg
      have := Array.any_eq_false.1 h g hlt
      rw [he] at this
      simpa using this
  have h2 : ∀ f, P.goes f = false := by
    intro f
    unfold Program.goes
    rw [h, Bool.and_false, Bool.or_false]
    rw [List.any_eq_false]
    intro g _
    rw [h1 g]; simp
  unfold OpenClaim.goesBy Program.goesAt Program.goesFrom
  rw [hs]
  simp only [Bool.or_false]
  cases P.funcNamed c.func with
  | none => rfl
  | some f => simp [h2 f]
theorem funcs_goes : Tryz.pinned.checked.prog.funcs.any Func.goes = false := by kernel_rfl
theorem card_goes : false = Rows.nodeQuietRow.goesBy Tryz.pinned.checked.prog := goes_none funcs_goes _ rfl
end Go.Proofs.YtbeokgkcndcahaaGreatDoor
