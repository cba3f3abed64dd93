/-
  Values, walked: compared.
-/
import Derived.Test.YtjedpjfmlaganaaDoorValA
namespace Go.Proofs.YtjedpjfmlaganaaDoor
set_option maxRecDepth 100000
open Go.RowKit
set_option linter.unusedVariables false

set_option maxHeartbeats 4000000 in
theorem compare_any (w : World) (a b : va.Val) : Calls Tryd.prog 48 #[.agg #[.bool a.nul, .int .i64 a.n, .string a.s], .agg #[.bool b.nul, .int .i64 b.n, .string b.s]] w fun e w' => e = .returned (.int .i64 (va.cmpV a b)) ∧ Below w.heap.size w w' := by
  obtain ⟨an, ai, as_⟩ := a
  obtain ⟨bn, bi, bs⟩ := b
  simp only
  obtain ⟨W, hW, hbox0, hbox1, hb, hz⟩ := two_boxes w #[.bool an, .int .i64 ai, .string as_] #[.bool bn, .int .i64 bi, .string bs] 43
  have c0 := hbox0.cell 0 (.bool an) rfl
  have d0 := hbox1.cell 0 (.bool bn) rfl
  have HB := hide hb
  have HW := hide hW
  obtain ⟨V, hV⟩ : ∃ V, W.drew = V := ⟨_, rfl⟩
  have HLV := hide (show Below w.heap.size w V by rw [← hV]; exact hb.drew)
  have g1 := (show Box V w.heap.size _ _ by rw [← hV]; exact hbox0.drew).later 1 (.int .i64 ai) rfl
  have g2 := (show Box V w.heap.size _ _ by rw [← hV]; exact hbox0.drew).later 2 (.string as_) rfl
  have k1 := (show Box V (w.heap.size + 1) _ _ by rw [← hV]; exact hbox1.drew).later 1 (.int .i64 bi) rfl
  have k2 := (show Box V (w.heap.size + 1) _ _ by rw [← hV]; exact hbox1.drew).later 2 (.string bs) rfl
  have HV := hide hV
  clear hb hW hbox0 hbox1 hV
  by_cases h1 : (an = true ∧ bn = false)
  · obtain ⟨rfl, rfl⟩ := h1
    have HX := hide (show va.cmpV ⟨true, ai, as_⟩ ⟨false, bi, bs⟩ = -1 from rfl)
    go_enter Tryd.func48, Tryd.ntmps48
    go_wp2_with fail
    rw [HW.out]
    clear g1 g2 k1 k2
    go_wp2_with fail
    go_ret
    exact ⟨ret_int HX.out.symm, HB.out⟩
  by_cases h2 : (bn = true ∧ an = false)
  · obtain ⟨rfl, rfl⟩ := h2
    have HX := hide (show va.cmpV ⟨false, ai, as_⟩ ⟨true, bi, bs⟩ = 1 from rfl)
    go_enter Tryd.func48, Tryd.ntmps48
    go_wp2_with fail
    rw [HW.out]
    clear g1 g2 k1 k2
    go_wp2_with fail
    go_ret
    exact ⟨ret_int HX.out.symm, HB.out⟩
  obtain rfl : an = bn := by cases an <;> cases bn <;> simp_all
  have HX := hide (show va.cmpV ⟨an, ai, as_⟩ ⟨an, bi, bs⟩ = va.orI (va.cmpI ai bi) (va.cmpS as_ bs) by cases an <;> rfl)
  clear h1 h2
  cases an
  all_goals
    go_enter Tryd.func48, Tryd.ntmps48
    go_wp2_with fail
    rw [HW.out]
    refine region_pi [(0, true), (1, true), (2, true), (3, true), (5, true), (6, true), (7, true), (8, true), (4, false), (9, false), (10, false), (11, false), (12, true)] (by kernel_rfl) (by kernel_rfl) ?_
    simp only [opsPi, List.filterMap_cons, List.filterMap_nil, List.getElem?_toArray, List.getElem?_cons_zero, List.getElem?_cons_succ, Option.map_some]
    rw [HV.out]
    repeat (first | (refine pi_take (v := _) rfl (fun W hW => by go_simp <;> exact rfl) ?_; simp only [Act.put, List.setIfInBounds_toArray, List.set_cons_zero, List.set_cons_succ]) | (refine pi_skip rfl ?_; simp only [Act.put, List.setIfInBounds_toArray, List.set_cons_zero, List.set_cons_succ]))
    clear g1 g2 k1 k2
    refine pi_run ?_
    go_wp2_with fail
    refine (cmpint_any V ai bi).mono ?_
    rintro e w' ⟨rfl, rfl⟩
    go_wp2_with fail
    refine ⟨Le.refl _, ?_⟩
    repeat (first | (refine pi_take (v := _) rfl (fun W hW => by go_simp <;> exact rfl) ?_; simp only [Act.put, List.setIfInBounds_toArray, List.set_cons_zero, List.set_cons_succ]) | (refine pi_skip rfl ?_; simp only [Act.put, List.setIfInBounds_toArray, List.set_cons_zero, List.set_cons_succ]))
    refine pi_run ?_
    go_wp2_with fail
    refine (cmpstr_any V as_ bs).mono ?_
    rintro e w' ⟨rfl, rfl⟩
    go_wp2_with fail
    refine ⟨Le.refl _, ?_⟩
    repeat (first | (refine pi_take (v := _) rfl (fun W hW => by go_simp <;> exact rfl) ?_; simp only [Act.put, List.setIfInBounds_toArray, List.set_cons_zero, List.set_cons_succ]) | (refine pi_skip rfl ?_; simp only [Act.put, List.setIfInBounds_toArray, List.set_cons_zero, List.set_cons_succ]))
    refine pi_run ?_
    go_wp2_with fail
    refine ⟨(Below.refl _ _).alloc (Nat.le_refl _) _, ?_⟩
    refine pi_run ?_
    go_wp2_with fail
    obtain ⟨X, hX⟩ : ∃ X, V.alloc (.cells #[.int .i64 (va.cmpI ai bi), .int .i64 (va.cmpS as_ bs)] 3) = X := ⟨_, rfl⟩
    have bx : Box X V.heap.size #[.int .i64 (va.cmpI ai bi), .int .i64 (va.cmpS as_ bs)] 3 := by rw [← hX]; exact box_new _ _ _
    have HBX := hide (show Below w.heap.size w X by rw [← hX]; exact HLV.out.alloc HLV.out.size _)
    have HXX := hide hX
    rw [hX]
    clear hX
    refine (or_any X V.heap.size _ _ (bx.cell 0 _ rfl) (bx.cell 1 _ rfl)).mono ?_
    rintro e w' ⟨rfl, rfl⟩
    rw [← HX.out]
    clear bx
    go_wp2_with fail
    refine ⟨by rw [HXX.out]; exact Le.refl _, ?_⟩
    repeat (first | (refine pi_take (v := _) rfl (fun W hW => by go_simp <;> exact rfl) ?_; simp only [Act.put, List.setIfInBounds_toArray, List.set_cons_zero, List.set_cons_succ]) | (refine pi_skip rfl ?_; simp only [Act.put, List.setIfInBounds_toArray, List.set_cons_zero, List.set_cons_succ]))
    refine pi_done ?_
    go_wp2_with fail
    go_ret
    exact ⟨rfl, HBX.out⟩
#print axioms compare_any

set_option maxHeartbeats 4000000 in
theorem refcompare_any (w : World) (a b : va.Val) : Calls Tryd.prog 50 #[.agg #[.bool a.nul, .int .i64 a.n, .string a.s], .agg #[.bool b.nul, .int .i64 b.n, .string b.s]] w fun e w' => e = .returned (.int .i64 (va.cmpV a b)) ∧ Below w.heap.size w w' := by
  obtain ⟨an, ai, as_⟩ := a
  obtain ⟨bn, bi, bs⟩ := b
  simp only
  by_cases hn : an = bn
  · subst hn
    have HX := hide (show va.cmpV ⟨an, ai, as_⟩ ⟨an, bi, bs⟩ = va.orI (va.cmpI ai bi) (va.cmpS as_ bs) by cases an <;> rfl)
    by_cases hi : ai = bi
    · subst hi
      have HY := hide (show va.orI (va.cmpI ai ai) (va.cmpS as_ bs) = va.cmpS as_ bs by simp [va.orI, va.cmpI])
      cases h1 : va.ltS as_ bs
      · cases h2 : va.eqS as_ bs
        · have HZ := hide (show va.cmpS as_ bs = 1 by simp [va.cmpS, h1, h2])
          unfold va.ltS at h1
          unfold va.eqS at h2
          go_enter Tryd.func50, Tryd.ntmps50
          go_wp2_with fail
          go_ret
          exact ⟨ret_int (by rw [HX.out, HY.out, HZ.out]), ((Below.refl _ _).alloc (Nat.le_refl _) _).alloc (by simp) _⟩
        · have HZ := hide (show va.cmpS as_ bs = 0 by simp [va.cmpS, h1, h2])
          unfold va.ltS at h1
          unfold va.eqS at h2
          go_enter Tryd.func50, Tryd.ntmps50
          go_wp2_with fail
          go_ret
          exact ⟨ret_int (by rw [HX.out, HY.out, HZ.out]), ((Below.refl _ _).alloc (Nat.le_refl _) _).alloc (by simp) _⟩
      · have HZ := hide (show va.cmpS as_ bs = -1 by simp [va.cmpS, h1])
        have h2 : va.eqS as_ bs = false := by
          cases h : va.eqS as_ bs with
          | false => rfl
          | true => have e := (va.cmpS_eq h).1; rw [HZ.out] at e; cases e
        unfold va.ltS at h1
        unfold va.eqS at h2
        go_enter Tryd.func50, Tryd.ntmps50
        go_wp2_with fail
        go_ret
        exact ⟨ret_int (by rw [HX.out, HY.out, HZ.out]), ((Below.refl _ _).alloc (Nat.le_refl _) _).alloc (by simp) _⟩
    · have hib : (ai != bi) = true := by simpa using hi
      by_cases hlt : ai < bi
      · have HY := hide (show va.orI (va.cmpI ai bi) (va.cmpS as_ bs) = -1 by simp [va.orI, va.cmpI, hlt])
        have HZ := hide (show (0 : Int) = 0 from rfl)
        go_enter Tryd.func50, Tryd.ntmps50
        go_wp2_with fail
        go_ret
        exact ⟨ret_int (by rw [HX.out, HY.out]), ((Below.refl _ _).alloc (Nat.le_refl _) _).alloc (by simp) _⟩
      · have hgt : bi < ai := by omega
        have HY := hide (show va.orI (va.cmpI ai bi) (va.cmpS as_ bs) = 1 by simp [va.orI, va.cmpI, hlt, hgt])
        have HZ := hide (show (0 : Int) = 0 from rfl)
        go_enter Tryd.func50, Tryd.ntmps50
        go_wp2_with fail
        go_ret
        exact ⟨ret_int (by rw [HX.out, HY.out]), ((Below.refl _ _).alloc (Nat.le_refl _) _).alloc (by simp) _⟩
  · cases an <;> cases bn <;> first | exact absurd rfl hn | skip
    · have HX := hide (show va.cmpV ⟨false, ai, as_⟩ ⟨true, bi, bs⟩ = 1 from rfl)
      go_enter Tryd.func50, Tryd.ntmps50
      go_wp2_with fail
      go_ret
      exact ⟨ret_int HX.out.symm, ((Below.refl _ _).alloc (Nat.le_refl _) _).alloc (by simp) _⟩
    · have HX := hide (show va.cmpV ⟨true, ai, as_⟩ ⟨false, bi, bs⟩ = -1 from rfl)
      go_enter Tryd.func50, Tryd.ntmps50
      go_wp2_with fail
      go_ret
      exact ⟨ret_int HX.out.symm, ((Below.refl _ _).alloc (Nat.le_refl _) _).alloc (by simp) _⟩
#print axioms refcompare_any
end Go.Proofs.YtjedpjfmlaganaaDoor
