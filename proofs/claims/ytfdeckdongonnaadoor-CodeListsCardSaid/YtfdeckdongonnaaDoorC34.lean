/-
  Code: what the rows of the laws have in common: the package variable's cells, the witness's world.
-/
import Derived.Test.YtfdeckdongonnaaDoorC33
import Derived.Test.YtfdeckdongonnaaDoorCards
import Derived.Test.YtfdeckdongonnaaDoorTie
import Derived.ProofKit
import Derived.Carry
import Derived.Deep.DeepHandedRow
import Derived.Lib.LaidTab
namespace Go.Proofs.YtfdeckdongonnaaDoor
open Go.ChangeShapes Go.WideShapes Go.ChangeAt Go.RowKit Go.Sl Go.Cd
set_option maxRecDepth 100000
theorem Tryd.own : ownKnob Tryd.prog.godebug = none := by kernel_rfl
theorem Tryd.laidOut : laidOutB Tryd.prog = true := by kernel_rfl
theorem gNeed : Tryd.prog.globalNamed "limner/path.needs" = some 0 := by kernel_rfl
theorem gNeedType : (Tryd.prog.globals[0]?).map (·.type) = some 139 := by kernel_rfl
theorem cells139 : Tryd.prog.cellsOf 139 = 6 := by kernel_rfl
theorem cells3 : Tryd.prog.cellsOf 3 = 1 := by kernel_rfl
theorem und139 : Tryd.prog.underlying 139 = some (.array 6 3) := by kernel_rfl
theorem und3 : Tryd.prog.underlying 3 = some (.int .i64) := by kernel_rfl
theorem und4 : Tryd.prog.underlying 4 = some .bool := by kernel_rfl
theorem needAt {W : World} (h : laidMetH Tryd.prog Rows.codeReadsRow.laid W) : NeedAt (heapOf W) := by
  have ht : Lib.TabIs Tryd.prog W "limner/path.needs" .i64 [0, 1, 1, 2, 3, 0] := Lib.tabIs_of_head (rest := []) gNeed gNeedType und139 und3 cells3 cells139 h
  refine At.of_cells (by decide) fun j v hj => ?_
  have hl : j < 6 := by
    rcases Nat.lt_or_ge j 6 with h | h
    · exact h
    · rw [List.getElem?_eq_none (by simpa using h)] at hj; cases hj
  have hj' : j = 0 ∨ j = 1 ∨ j = 2 ∨ j = 3 ∨ j = 4 ∨ j = 5 := by omega
  rcases hj' with rfl | rfl | rfl | rfl | rfl | rfl <;> (cases hj; exact ht.cell gNeed _ (by decide))
/-- A world for the witness: the settled one, the table laid. -/
noncomputable def laidWorld (os : Os) : World :=
  { World.holding Tryd.prog os ⟨#[], #[], []⟩ with heap := (World.holding Tryd.prog os ⟨#[], #[], []⟩).heap.modify 0 fun
      | .cells _ t frozen => .cells #[.int .i64 0, .int .i64 1, .int .i64 1, .int .i64 2, .int .i64 3, .int .i64 0] t frozen
      | o => o }
theorem sl22Und : Tryd.prog.underlying 22 = some (.slice 5) := by kernel_rfl
theorem sl24Und : Tryd.prog.underlying 24 = some (.slice 82) := by kernel_rfl
theorem sl56Und : Tryd.prog.underlying 56 = some (.slice 46) := by kernel_rfl
def isSt (P : Program) (t : TypeId) : Bool := match P.underlying t with | some (.struct _) => true | _ => false
theorem agg_of_struct {P : Program} {W : World} {r : Reach} {base t : Nat} {v : Value} (h : Value.okWide P W r base t v) (hs : isSt P t = true) : ∃ cs, v = .agg cs := by
  unfold isSt at hs
  split at hs
  · rename_i fs hu
    obtain ⟨cs, h, _⟩ := okWide_struct hu h
    exact ⟨cs, h⟩
  · cases hs
theorem isSt46 : isSt Tryd.prog 46 = true := by kernel_rfl
theorem some_of {α : Type} {o : Option α} (h : o.isSome = true) : ∃ x, o = some x := by
  cases o with
  | none => cases h
  | some x => exact ⟨x, rfl⟩
end Go.Proofs.YtfdeckdongonnaaDoor
