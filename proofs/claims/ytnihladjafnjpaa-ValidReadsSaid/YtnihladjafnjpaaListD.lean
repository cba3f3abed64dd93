/-
  Lists of ids, walked: whether a list may be, by the document. (UNDER WAY: not built clean yet.)
-/
import Derived.Test.YtnihladjafnjpaaListC
namespace Go.Proofs.Ytnihladjafnjpaa
open Go.RowKit
set_option linter.unusedVariables false

theorem later {w V : World} {q b o : Nat} {v : Value} (hV : (w.drewN q).drew = V) (hb : b < w.heap.size) (hc : w.cell? ⟨b, o, none⟩ = some v) : ∀ W', Le V W' → W'.cell? ⟨b, o, none⟩ = some v :=
  fun W' h => by subst hV; exact (Below.cell (p := ⟨b, o, none⟩) h (show b < w.heap.size from hb)).trans hc
theorem prev_get {l : List Int} {k : Nat} (h0 : 0 < k) (hk : k ≤ l.length) : l[k - 1]? = some (prev l k) := by
  obtain ⟨j, rfl⟩ : ∃ j, k = j + 1 := ⟨k - 1, by omega⟩
  have hx : l[j]? = some (l[j]'(by omega)) := List.getElem?_eq_getElem _
  rw [prev_succ hx]
  exact hx
set_option maxRecDepth 100000 in
set_option maxHeartbeats 4000000 in
theorem refmay_any (w : World) (H : Int) (A : Option Addr) (n c : Nat) (l : List Int) (hl : l.length = n) (hn : n ≤ 1000000000) (hnc : n ≤ c) (hr : Row w w.heap.size A (ints l)) :
    Calls Try.prog 13 #[.agg #[.int .i64 H, .slice A n c]] w fun e w' => e = .returned (.bool (may H l)) ∧ Below w.heap.size w w' := by
  have HL := hide hl
  clear hl
  obtain ⟨W, hW, hc0, hc1, hr2, hb, hz⟩ := box_world w H A n c l hr
  have HB := hide hb
  have HW := hide hW
  clear hb hW
  go_enter Try.func13, Try.ntmps13
  go_wp2_with fail
  rw [HW.out]
  go_loopw [3] (fun i wr => ∃ k q : Nat, k ≤ n ∧ i = .int .i64 k ∧ Hid (good H l k) ∧ wr = W.drewN q) (fun i _ => n - (intOf i).toNat)
  case atStart => exact ⟨0, 0, Nat.zero_le _, rfl, hide (good_zero _ _), rfl⟩
  case round =>
    obtain ⟨k, q, hk, rfl, HG, rfl⟩ := hrel
    by_cases hkn : k < n
    · obtain ⟨x, hx⟩ : ∃ x, l[k]? = some x := ⟨_, List.getElem?_eq_getElem (by rw [HL.out]; exact hkn)⟩
      obtain ⟨bA, oA, rfl, hbA, hcA⟩ := hr2.at_ (ints_at hx)
      have HX := hide hx
      obtain ⟨p, hp⟩ : ∃ p, p = prev l k := ⟨_, rfl⟩
      have HPP := hide hp
      have hp0 := good_prev k (by rw [HL.out]; exact hk) HG.out
      rw [← hp] at hp0
      have hpc : ∀ m : Nat, k = m + 1 → W.cell? ⟨bA, oA + m, none⟩ = some (.int .i64 p) := fun m h0 => by
        have := prev_get (show 0 < k by omega) (show k ≤ l.length by rw [HL.out]; exact hk)
        rw [← hp, show k - 1 = m by omega] at this
        obtain ⟨b2, o2, e2, -, hc2⟩ := hr2.at_ (ints_at this)
        simp only [Option.some.injEq, Addr.mk.injEq, and_true] at e2
        obtain ⟨rfl, rfl⟩ := e2
        exact hc2
      have HPC := hide hpc
      obtain ⟨V, hV⟩ : ∃ V, (W.drewN q).drew = V := ⟨_, rfl⟩
      have HV := hide hV
      clear hV
      have g0 := later HV.out hz hc0
      have g1 := later HV.out hz hc1
      have gx := later HV.out (show bA < W.heap.size by omega) hcA
      clear hx hp hpc
      by_cases h2 : x < 1
      · have HF := hide (may_false (H := H) HX.out (by rw [← HPP.out]; omega))
        go_wp2_with fail
        refine region_pi [(0, true), (1, true), (2, true), (3, true), (4, true), (5, true), (6, true), (7, true), (8, true), (9, true), (10, true), (11, true), (12, true), (13, true), (14, true), (15, true), (16, true), (17, true), (18, true), (19, true), (20, true), (21, true), (22, true), (23, true), (24, true), (25, true), (26, true), (27, true), (28, true), (29, true), (30, true), (31, true), (32, true), (33, true)] (by kernel_rfl) (by kernel_rfl) ?_
        simp only [opsPi, List.filterMap_cons, List.filterMap_nil, List.getElem?_toArray, List.getElem?_cons_zero, List.getElem?_cons_succ, Option.map_some]
        rw [HV.out]
        repeat (first | (refine pi_take (v := _) rfl (fun W hW => by go_simp <;> exact rfl) ?_; simp only [Act.put, List.setIfInBounds_toArray, List.set_cons_zero, List.set_cons_succ]) | (refine pi_skip rfl ?_; simp only [Act.put, List.setIfInBounds_toArray, List.set_cons_zero, List.set_cons_succ]))
        refine pi_done ?_
        rw [← HV.out, World.drew_drewN]
        go_wp2_with fail
        go_ret
        exact ⟨ret_bool HF.out.symm, below_drewN HB.out _⟩
      · have d2 := decide_eq_false h2
        by_cases h3 : H < x
        · have HF := hide (may_false (H := H) HX.out (by omega))
          go_wp2_with fail
          refine region_pi [(0, true), (1, true), (2, true), (3, true), (4, true), (5, true), (6, true), (7, true), (8, true), (9, true), (10, true), (11, true), (12, true), (13, true), (14, true), (15, true), (16, true), (17, true), (18, true), (19, true), (20, true), (21, true), (22, true), (23, true), (24, true), (25, true), (26, true), (27, true), (28, true), (29, true), (30, true), (31, true), (32, true), (33, true)] (by kernel_rfl) (by kernel_rfl) ?_
          simp only [opsPi, List.filterMap_cons, List.filterMap_nil, List.getElem?_toArray, List.getElem?_cons_zero, List.getElem?_cons_succ, Option.map_some]
          rw [HV.out]
          repeat (first | (refine pi_take (v := _) rfl (fun W hW => by go_simp <;> exact rfl) ?_; simp only [Act.put, List.setIfInBounds_toArray, List.set_cons_zero, List.set_cons_succ]) | (refine pi_skip rfl ?_; simp only [Act.put, List.setIfInBounds_toArray, List.set_cons_zero, List.set_cons_succ]))
          refine pi_done ?_
          rw [← HV.out, World.drew_drewN]
          go_wp2_with fail
          go_ret
          exact ⟨ret_bool HF.out.symm, below_drewN HB.out _⟩
        · have d3 := decide_eq_false h3
          by_cases h4 : 0 < k
          · obtain ⟨m, hm⟩ : ∃ m, k = m + 1 := ⟨k - 1, by omega⟩
            have gp := later HV.out (show bA < W.heap.size by omega) (HPC.out m hm)
            have hw : IntKind.i64.wrap ((k : Int) - 1) = (m : Int) := by rw [IntWalk.i64_in _ (by omega)]; omega
            have hmn : m < n := by omega
            have HM := hide hm
            clear hm
            by_cases h5 : x ≤ p
            · have HF := hide (may_false (H := H) HX.out (by rw [← HPP.out]; omega))
              go_wp2_with fail
              refine region_pi [(0, true), (1, true), (2, true), (3, true), (4, true), (5, true), (6, true), (7, true), (8, true), (9, true), (10, true), (11, true), (12, true), (13, true), (14, true), (15, true), (16, true), (17, true), (18, true), (19, true), (20, true), (21, true), (22, true), (23, true), (24, true), (25, true), (26, true), (27, true), (28, true), (29, true), (30, true), (31, true), (32, true), (33, true)] (by kernel_rfl) (by kernel_rfl) ?_
              simp only [opsPi, List.filterMap_cons, List.filterMap_nil, List.getElem?_toArray, List.getElem?_cons_zero, List.getElem?_cons_succ, Option.map_some]
              rw [HV.out]
              repeat (first | (refine pi_take (v := _) rfl (fun W hW => by go_simp <;> exact rfl) ?_; simp only [Act.put, List.setIfInBounds_toArray, List.set_cons_zero, List.set_cons_succ]) | (refine pi_skip rfl ?_; simp only [Act.put, List.setIfInBounds_toArray, List.set_cons_zero, List.set_cons_succ]))
              refine pi_done ?_
              rw [← HV.out, World.drew_drewN]
              go_wp2_with fail
              go_ret
              exact ⟨ret_bool HF.out.symm, below_drewN HB.out _⟩
            · have d5 := decide_eq_false h5
              have HN := hide (good_succ HG.out HX.out (by rw [← HPP.out]; omega) (by omega))
              go_wp2_with fail
              refine region_pi [(0, true), (1, true), (2, true), (3, true), (4, true), (5, true), (6, true), (7, true), (8, true), (9, true), (10, true), (11, true), (12, true), (13, true), (14, true), (15, true), (16, true), (17, true), (18, true), (19, true), (20, true), (21, true), (22, true), (23, true), (24, true), (25, true), (26, true), (27, true), (28, true), (29, true), (30, true), (31, true), (32, true), (33, true)] (by kernel_rfl) (by kernel_rfl) ?_
              simp only [opsPi, List.filterMap_cons, List.filterMap_nil, List.getElem?_toArray, List.getElem?_cons_zero, List.getElem?_cons_succ, Option.map_some]
              rw [HV.out]
              repeat (first | (refine pi_take (v := _) rfl (fun W hW => by go_simp <;> exact rfl) ?_; simp only [Act.put, List.setIfInBounds_toArray, List.set_cons_zero, List.set_cons_succ]) | (refine pi_skip rfl ?_; simp only [Act.put, List.setIfInBounds_toArray, List.set_cons_zero, List.set_cons_succ]))
              refine pi_done ?_
              rw [← HV.out, World.drew_drewN]
              go_wp2_with fail
              exact ⟨⟨k + 1, _, by omega, by go_num, HN, rfl⟩, by simp [intOf]; omega⟩
          · have hp0 : p = 0 := by rw [HPP.out, show k = 0 by omega]; rfl
            have HN := hide (good_succ HG.out HX.out (by rw [← HPP.out]; omega) (by omega))
            go_wp2_with fail
            refine region_pi [(0, true), (1, true), (2, true), (3, true), (4, true), (5, true), (6, true), (7, true), (8, true), (9, true), (10, true), (11, true), (12, true), (13, true), (14, true), (15, true), (16, true), (17, true), (18, true), (19, true), (20, true), (21, true), (22, true), (23, true), (24, true), (25, true), (26, true), (27, true), (28, true), (29, true), (30, true), (31, true), (32, true), (33, true)] (by kernel_rfl) (by kernel_rfl) ?_
            simp only [opsPi, List.filterMap_cons, List.filterMap_nil, List.getElem?_toArray, List.getElem?_cons_zero, List.getElem?_cons_succ, Option.map_some]
            rw [HV.out]
            repeat (first | (refine pi_take (v := _) rfl (fun W hW => by go_simp <;> exact rfl) ?_; simp only [Act.put, List.setIfInBounds_toArray, List.set_cons_zero, List.set_cons_succ]) | (refine pi_skip rfl ?_; simp only [Act.put, List.setIfInBounds_toArray, List.set_cons_zero, List.set_cons_succ]))
            refine pi_done ?_
            rw [← HV.out, World.drew_drewN]
            go_wp2_with fail
            exact ⟨⟨k + 1, _, by omega, by go_num, HN, rfl⟩, by simp [intOf]; omega⟩
    · obtain rfl : k = n := by omega
      by_cases h0 : H < 0
      · have HM := hide (may_out (H := H) (l := l) (by omega))
        go_wp2_with fail
        go_ret
        exact ⟨ret_bool HM.out.symm, below_drewN HB.out _⟩
      · by_cases h1 : 1073741824 < H
        · have HM := hide (may_out (H := H) (l := l) (by omega))
          go_wp2_with fail
          go_ret
          exact ⟨ret_bool (by rw [HM.out]; exact decide_eq_false (by omega)), below_drewN HB.out _⟩
        · have HM := hide (may_true (H := H) (l := l) HL.out (by omega) (by omega) HG.out)
          go_wp2_with fail
          go_ret
          first
            | exact ⟨ret_bool HM.out.symm, below_drewN HB.out _⟩
            | exact ⟨ret_bool (by rw [HM.out]; exact decide_eq_true (by omega)), below_drewN HB.out _⟩
#print axioms refmay_any
end Go.Proofs.Ytnihladjafnjpaa
