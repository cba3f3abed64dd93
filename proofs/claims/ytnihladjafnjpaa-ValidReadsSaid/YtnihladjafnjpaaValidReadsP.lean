/-
  The law ValidReads: whatever the input, the call returns true, and each argument reads behind the call as it read before.
-/
import Derived.Test.YtnihladjafnjpaaRows
import Derived.Test.YtnihladjafnjpaaPlZr
import Derived.Test.YtnihladjafnjpaaPlShape
namespace Go.Proofs.Ytnihladjafnjpaa.ValidReadsDone
open Go.ChangeShapes Go.WideShapes Go.ChangeAt Go.RowKit
open Go.ChangeMaps (open_string shut_string)
set_option linter.unusedVariables false

theorem own : ownKnob Try.prog.godebug = none := by kernel_rfl
theorem laidOut : laidOutB Try.prog = true := by kernel_rfl

set_option maxRecDepth 100000 in
theorem lifted (os : Os) (started : os.Started) (H : Type) (enc : TypeId × Value → H) :
    ReturnsInHanded {} Try.checked os 5 .any (Rows.validReadsSpec.pre6 enc Try.prog Try.f5 Rows.validReadsRow.domain false) (Rows.validReadsSpec.post enc Try.prog Try.f5 false true false false) := by
  refine returnsInHanded_of_change (C := Try.checked) own started (by kernel_rfl) Try.func5
    (ChangeSpec.witness6 (enc := enc) (C := Try.checked) false ⟨#[], #[.slice none 0 0, .agg #[.int .i64 0, .slice none 0 0], .slice none 0 0], []⟩ 8 (by kernel_rfl) (by kernel_rfl) (by kernel_rfl) (by kernel_rfl)) ?_
  intro W base args ds gs before hval0 hW hcnd _
  have hval : ∀ (j : Nat) t v, Try.f5.params[j]? = some t → args[j]? = some v → Value.okWide Try.prog W .any base t v := hval0
  have hW' := hW
  obtain ⟨p, q, hA0, hV, rfl, hfz, hnd⟩ := hW
  have hA : DataW.TrodAll enc Try.prog W 0 (fun _ => true) true Try.f5.params.toList args.toList ds p := hA0
  have hAll := hA
  rw [Try.params5] at hA hval
  obtain ⟨v0, vs0, d0, ds0, p0, q0, hargs, rfl, rfl, h0, r0⟩ := trodAll_cons hA
  obtain ⟨v1, vs1, d1, ds1, p1, q1, rfl, rfl, rfl, h1, r1⟩ := trodAll_cons r0
  obtain ⟨v2, vs2, d2, ds2, p2, q2, rfl, rfl, rfl, h2, r2⟩ := trodAll_cons r1
  obtain ⟨rfl, rfl, rfl⟩ := trodAll_nil r2
  obtain rfl : args = #[v0, v1, v2] := by cases args; simp_all
  obtain ⟨rfl, rfl⟩ := trodVars_none hV
  obtain ⟨a0, len0, cap0, rfl⟩ := okWide_slice Try.underlying35 (hval 0 35 v0 rfl rfl)
  obtain ⟨A0, n0, c0, l0, e0, hl0, hnc0, hc0, hr0⟩ := ok_dirs (ok_of_Trod (.slice 3 (.pair 1 (.int .i64) (.pair 1 (.int .i64) (.pair 1 (.int .i64) .unit)))) (by kernel_rfl) h0)
  simp only [Value.slice.injEq] at e0
  obtain ⟨rfl, rfl, rfl⟩ := e0
  obtain ⟨cs1, rfl, -⟩ := okWide_struct Try.underlying24 (hval 1 24 v1 rfl rfl)
  obtain ⟨H1, A1, n1, c1, l1, e1, wH1, hl1, hnc1, hc1, hwf1, hr1⟩ := ok_list (ok_of_Trod (.pair 1 (.int .i64) (.pair 1 (.slice 1 (.int .i64)) .unit)) (by kernel_rfl) h1)
  obtain rfl : cs1 = #[.int .i64 H1, .slice A1 n1 c1] := by
    have e : cs1.toList = _ := e1
    rw [← Array.toList_inj, e]
  obtain ⟨a2, len2, cap2, rfl⟩ := okWide_slice Try.underlying22 (hval 2 22 v2 rfl rfl)
  obtain ⟨A2, n2, c2, l2, e2, hl2, hnc2, hc2, hA2, hwf2, hr2⟩ := ok_slice (fun x : Int => [.int .i64 x]) (fun x => (Lit.int .i64 x).wf = true) (fun ys hy => by obtain ⟨n, rfl, hn⟩ := hy; exact ⟨n, hn, rfl⟩) (fun _ => rfl) (ok_of_Trod (.slice 1 (.int .i64)) (by kernel_rfl) h2)
  rw [flatMap_one] at hr2
  simp only [Value.slice.injEq] at e2
  obtain ⟨rfl, rfl, rfl⟩ := e2
  clear hA0 hval0
  refine (reads_walk W H1 a0 A1 a2 len0 cap0 n1 c1 len2 cap2 l0 l1 l2 hl0 hnc0 hc0 hl1 hnc1 hc1 hl2 hnc2 hc2 hr0 hr1 hr2).mono fun e W' ⟨he, bel⟩ => ?_
  subst he
  exact ⟨_, rfl, _, _, _, [], _, [], hW', trodAll_mk1 (shut_bool Try.underlying4 _), belowAll laidOut bel _ _ _ _ (by kernel_rfl) hAll, rfl, bel.frame _, fun h => by cases h⟩

theorem over : Rows.validReadsRow.holds Try.pinned (OpenSpec.ofChange Rows.validReadsSpec) :=
  OpenClaim.holds_of_wide 5 Try.f5 rfl rfl rfl rfl rfl rfl rfl ⟨rfl, rfl, rfl, rfl, rfl⟩ rfl rfl rfl rfl rfl (by kernel_rfl) Try.func5 (by kernel_rfl)
    (of_decide_eq_true (by kernel_rfl)) (by unfold Func.isWrapper; first | (rw [if_pos (by decide +kernel)]; kernel_rfl) | (rw [if_neg (by decide +kernel)]; exact ⟨rfl, rfl⟩))
    (fun os started H enc _ => lifted os started H enc)

theorem proved : Rows.ValidReadsSaid := over
#print axioms proved
end Go.Proofs.Ytnihladjafnjpaa.ValidReadsDone
