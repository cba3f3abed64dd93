/-
  Fields, walked: at most 60 of them.
-/
import Derived.Test.YtjliocbdidiemaaDoorVarE
import Derived.Test.YtjliocbdidiemaaDoorQMath
import Derived.Test.YtjliocbdidiemaaDoorBox
import Derived.Test.YtjliocbdidiemaaDoorRegionB
namespace Go.Proofs.YtjliocbdidiemaaDoor
open Go.RowKit
set_option linter.unusedVariables false

theorem infoRF : (Tryd.prog.info? 54).map (fun i => (i.zero, i.size, i.bytes)) = some (some (.agg #[.int .i64 0, .bool false, .int .u64 0, .slice none 0 0]), 4, 48) := by kernel_rfl
theorem infoF : (Tryd.prog.info? 49).map (fun i => (i.zero, i.size, i.bytes)) = some (some (.agg #[.int .i64 0, .bool false, .int .u64 0, .slice none 0 0]), 4, 48) := by kernel_rfl
theorem row_cells4 (w : World) (a b c d : Value) (t : TypeId) : Row (w.alloc (.cells #[a, b, c, d] t)) (w.heap.size + 1) (some ⟨w.heap.size, 0, none⟩) [a, b, c, d] := row_new w #[a, b, c, d] t (0, 0)
theorem one4 (p : FV) : ∀ u ∈ cellsF p, u.oneCell' = true := by
  intro u hu
  simp [cellsF] at hu
  rcases hu with rfl | rfl | rfl | rfl <;> rfl
/-- An element's cells, in a later world. -/
theorem elem_cells {w wr : World} {B C : Nat} {A : Option Addr} {l : List FV} {k : Nat} {p : FV} (hr : Row w B A (fcs l)) (hx : l[k]? = some p) (hb : Below C w wr) (hC : B ≤ C) :
    ∃ b o, A = some ⟨b, o, none⟩ ∧ b < B ∧ wr.cell? ⟨b, o + k * 4, none⟩ = some (.int .i64 p.1.tag) ∧ wr.cell? ⟨b, o + k * 4 + 1, none⟩ = some (.bool p.1.isB) ∧ wr.cell? ⟨b, o + k * 4 + 2, none⟩ = some (.int .u64 (p.1.n : Int)) ∧ wr.cell? ⟨b, o + k * 4 + 3, none⟩ = some (.slice p.2.1 p.1.b.length p.2.2) := by
  obtain ⟨h0, h1, h2, h3⟩ := fcs_at hx
  obtain ⟨b, o, hA, hb', hc⟩ := (hr.below hb hC) (by rintro h; rw [h] at h0; simp at h0)
  exact ⟨b, o, hA, hb', hc _ _ h0, hc _ _ h1, hc _ _ h2, hc _ _ h3⟩

end Go.Proofs.YtjliocbdidiemaaDoor
