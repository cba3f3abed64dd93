/-
  The law VarintBack: whatever the input, the call returns true, and each argument reads behind the call as it read before.
-/
import Derived.Test.YtkhdkfpgalcehaaRows
import Derived.Test.YtkhdkfpgalcehaaVarK
import Derived.Test.YtkhdkfpgalcehaaShape
namespace Go.Proofs.Ytkhdkfpgalcehaa.VarintBackDone
open Go.ChangeShapes Go.WideShapes Go.ChangeAt Go.RowKit
open Go.ChangeMaps (open_string shut_string)
set_option linter.unusedVariables false

theorem own : ownKnob Try.prog.godebug = none := by kernel_rfl
theorem laidOut : laidOutB Try.prog = true := by kernel_rfl

set_option maxRecDepth 100000 in
theorem lifted (os : Os) (started : os.Started) (H : Type) (enc : TypeId × Value → H) :
    ReturnsInHanded {} Try.checked os 7 .any (Rows.varintBackSpec.pre6 enc Try.prog Try.f7 Rows.varintBackRow.domain false) (Rows.varintBackSpec.post enc Try.prog Try.f7 false true false false) := by
  refine returnsInHanded_of_change (C := Try.checked) own started (by kernel_rfl) Try.func7
    (ChangeSpec.witness6 (enc := enc) (C := Try.checked) false ⟨#[], #[.slice none 0 0], []⟩ 8 (by kernel_rfl) (by kernel_rfl) (by kernel_rfl) (by kernel_rfl)) ?_
  intro W base args ds gs before hval0 hW hcnd _
  have hval : ∀ (j : Nat) t v, Try.f7.params[j]? = some t → args[j]? = some v → Value.okWide Try.prog W .any base t v := hval0
  have hW' := hW
  obtain ⟨p, q, hA0, hV, rfl, hfz, hnd⟩ := hW
  have hA : DataW.TrodAll enc Try.prog W 0 (fun _ => true) true Try.f7.params.toList args.toList ds p := hA0
  have hAll := hA
  rw [Try.params7] at hA hval
  obtain ⟨v0, vs0, d0, ds0, p0, q0, hargs, rfl, rfl, h0, r0⟩ := trodAll_cons hA
  obtain ⟨rfl, rfl, rfl⟩ := trodAll_nil r0
  obtain rfl : args = #[v0] := by cases args; simp_all
  obtain ⟨rfl, rfl⟩ := trodVars_none hV
  obtain ⟨a0, len0, cap0, rfl⟩ := okWide_slice Try.underlying39 (hval 0 39 v0 rfl rfl)
  obtain ⟨A0, n0, c0, l0, e0, hl0, hnc0, hc0, hA0, hwf0, hr0⟩ := ok_slice (fun x : Int => [.int .i64 x]) (fun x => (Lit.int .i64 x).wf = true) (fun ys hy => by obtain ⟨n, rfl, hn⟩ := hy; exact ⟨n, hn, rfl⟩) (fun _ => rfl) (ok_of_Trod (.slice 1 (.int .i64)) (by kernel_rfl) h0)
  rw [flatMap_one] at hr0
  simp only [Value.slice.injEq] at e0
  obtain ⟨rfl, rfl, rfl⟩ := e0
  clear hA0 hval0
  refine (back_walk W _ _ _ l0 hl0 hnc0 hc0 (fun x hx => i64_of_wf (hwf0 x hx)) hr0).mono fun e W' ⟨he, bel⟩ => ?_
  subst he
  exact ⟨_, rfl, _, _, _, [], _, [], hW', trodAll_mk1 (shut_bool Try.underlying4 _), belowAll laidOut bel _ _ _ _ (by kernel_rfl) hAll, rfl, bel.frame _, fun h => by cases h⟩

theorem over : Rows.varintBackRow.holds Try.pinned (OpenSpec.ofChange Rows.varintBackSpec) :=
  OpenClaim.holds_of_wide 7 Try.f7 rfl rfl rfl rfl rfl rfl rfl ⟨rfl, rfl, rfl, rfl, rfl⟩ rfl rfl rfl rfl rfl (by kernel_rfl) Try.func7 (by kernel_rfl)
    (of_decide_eq_true (by kernel_rfl)) (by unfold Func.isWrapper; first | (rw [if_pos (by decide +kernel)]; kernel_rfl) | (rw [if_neg (by decide +kernel)]; exact ⟨rfl, rfl⟩))
    (fun os started H enc _ => lifted os started H enc)

theorem proved : Rows.VarintBackSaid := over
#print axioms proved
end Go.Proofs.Ytkhdkfpgalcehaa.VarintBackDone
