/-
  The document's examples of the checksum, and the law on sums, walked.
-/
import Derived.Test.YtocpeiocgppkfaaYCrcD
namespace Go.Proofs.Ytocpeiocgppkfaa
open Go.RowKit
set_option linter.unusedVariables false

theorem tab_size : (u32s tab).toArray.size = 256 := by simp [u32s, tab]
theorem info_tab : (Try.prog.info? 44).map (·.size) = some (u32s tab).toArray.size := by rw [tab_size]; kernel_rfl
theorem hasTab_row {w : World} {b : Nat} {t : TypeId} (h : w.heap[b]? = some (.cells (u32s tab).toArray t (0, 0))) : HasTab w b := fun j hj => by
  rw [cell_of_row _ _ _ _ _ _ h]
  simp [u32s, tab, hj]
/-- A table made and stored: where it stands. -/
theorem made_tab (w : World) (t : TypeId) : HasTab ((w.alloc (.cells zeros t)).setRow w.heap.size (u32s tab).toArray) w.heap.size :=
  hasTab_row (setRow_heap _ _ _ _ _ _ (heap_alloc_new w _))
theorem tab_world {w w1 : World} (hb1 : Below w.heap.size w w1) : ∃ W, (w1.alloc (Obj.cells zeros 44)).setRow w1.heap.size (u32s tab).toArray = W ∧ HasTab W w1.heap.size ∧ Below w.heap.size w W ∧ w1.heap.size < W.heap.size ∧ w1.heap.size + 1 = W.heap.size :=
  ⟨_, rfl, made_tab w1 _, below_setRow (hb1.alloc hb1.size _) hb1.size _, by simp, by simp⟩
end Go.Proofs.Ytocpeiocgppkfaa
