/-
  Values that are the same, walked.
-/
import Derived.Test.YtoembifjgmiamaaDoorValB
namespace Go.Proofs.YtoembifjgmiamaaDoor
open Go.RowKit
set_option linter.unusedVariables false

theorem vsame_any (w : World) (a b : va.Val) : Calls Tryd.prog 10 #[.agg #[.bool a.nul, .int .i64 a.n, .string a.s], .agg #[.bool b.nul, .int .i64 b.n, .string b.s]] w fun e w' => e = .returned (.bool (decide (va.cmpV a b = 0))) ∧ Below w.heap.size w w' := by
  obtain ⟨W, hW, -, -, hb, -⟩ := two_boxes w #[.bool a.nul, .int .i64 a.n, .string a.s] #[.bool b.nul, .int .i64 b.n, .string b.s] 23
  have HB := hide hb
  have HW := hide hW
  clear hb hW
  go_enter Tryd.func10, Tryd.ntmps10
  go_wp2_with fail
  rw [HW.out]
  refine (compare_any W a b).mono ?_
  rintro e w1 ⟨rfl, hb1⟩
  have HF := hide (show Below w.heap.size w w1 from HB.out.trans (hb1.mono HB.out.size))
  clear hb1
  obtain ⟨x, hx0⟩ : ∃ x, va.cmpV a b = x := ⟨_, rfl⟩
  rw [hx0]
  have HX0 := hide hx0
  clear hx0
  by_cases hx : x = 0
  · subst hx
    go_wp2_with fail
    go_ret
    exact ⟨ret_bool (by rw [HX0.out]; rfl), HF.out⟩
  · have hxb : (x == 0) = false := by simpa using hx
    go_wp2_with fail
    go_ret
    exact ⟨ret_bool (by rw [HX0.out]; simp [hx]), HF.out⟩
#print axioms vsame_any
end Go.Proofs.YtoembifjgmiamaaDoor
