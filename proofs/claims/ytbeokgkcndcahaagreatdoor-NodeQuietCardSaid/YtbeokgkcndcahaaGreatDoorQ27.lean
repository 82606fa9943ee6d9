/-
  The row's statement.
-/
import Derived.Test.YtbeokgkcndcahaaGreatDoorQ24
import Derived.Test.YtbeokgkcndcahaaGreatDoorQ26
set_option linter.all false
set_option maxRecDepth 100000
namespace Go.Proofs.YtbeokgkcndcahaaGreatDoor.quiet
open Go.ChangeShapes Go.WideShapes Go.ChangeAt Go.RowKit
/-- A table's cells, off its datum. -/
def litCells : DataW Unit → Array Value
  | .agg ps => (ps.map fun d => match d with
    | .lit (.int k n) => Value.int k n
    | _ => undef).toArray
  | _ => #[]
def layAt (b : Nat) (cs : Array Value) (h : Array Obj) : Array Obj := h.modify b fun o => match o with
  | .cells _ t frozen => .cells cs t frozen
  | o => o
/-- A world for the witness: the settled one, the two tables holding what their initialisers lay. -/
noncomputable def laidWorld (os : Os) : World :=
  { World.holding Tryz.prog os ⟨#[], #[], []⟩ with heap := layAt 2 (litCells Rows.laid_math_bits_deBruijn64tab) (layAt 0 (litCells Rows.laid_starling_digest_constants) (World.holding Tryz.prog os ⟨#[], #[], []⟩).heap) }
theorem laid_met (os : Os) : laidMet Tryz.prog Rows.nodeQuietRow.laid ((laidWorld os).forCall (fun _ _ => 0) ⟨#[], #[.slice none 0 0], []⟩).memory :=
  laidMet_of_run' 8 (by kernel_rfl) (by kernel_rfl)
theorem reads (os : Os) {H : Type} (enc : TypeId × Value → H) : ∃ places, DataW.whole enc Tryz.prog ((laidWorld os).forCall (fun _ _ => 0) ⟨#[], #[.slice none 0 0], []⟩).memory Tryz.f3.params.toList Rows.nodeQuietSpec.vars false #[Value.slice none 0 0].toList 8 = some ([.nil], [], places) :=
  ⟨[], by kernel_rfl⟩
theorem lifted (os : Os) (started : os.Started) (H : Type) (enc : TypeId × Value → H) (F : Stop.Interp) :
    ReturnsInHanded {} Tryz.checked os 3 .any ((OpenSpec.ofChange Rows.nodeQuietSpec).preRow enc Tryz.prog Tryz.f3 Rows.nodeQuietRow.domain false Rows.nodeQuietRow.laid) (((OpenSpec.ofChange Rows.nodeQuietSpec).at F).post enc Tryz.prog Tryz.f3 false true false false) := by
  obtain ⟨places, hx⟩ := reads os enc
  refine returnsInHanded_of_row (C := Tryz.checked) (s := OpenSpec.ofChange Rows.nodeQuietSpec) own started (by kernel_rfl) Tryz.func3
    (witness_row_at (enc := enc) (C := Tryz.checked) false (laidWorld os) #[.slice none 0 0] rfl (by kernel_rfl) (by kernel_rfl) (by kernel_rfl)
      (OpenSpec.preRow_of_cond 8 hx (by kernel_rfl) (fun k hk => by cases hk) (by kernel_rfl) (laid_met os))) ?_
  intro W base args ds gs before hval hW _ _ hz _ _ _
  exact contract H enc W base args ds gs before hval hW hz
theorem said : Rows.NodeQuietSaid :=
  OpenClaim.holds_of_cond 3 Tryz.f3 rfl rfl rfl rfl rfl rfl rfl ⟨rfl, rfl, rfl, rfl, rfl⟩ rfl rfl rfl rfl rfl (by kernel_rfl) Tryz.func3 closed
    (of_decide_eq_true (by kernel_rfl)) (by unfold Func.isWrapper; first | (rw [if_pos (by decide +kernel)]; kernel_rfl) | (rw [if_neg (by decide +kernel)]; exact ⟨rfl, rfl⟩))
    (fun os started H enc _ F => by rw [OpenClaim.pre_eq_preRow]; exact lifted os started H enc F)
end Go.Proofs.YtbeokgkcndcahaaGreatDoor.quiet
