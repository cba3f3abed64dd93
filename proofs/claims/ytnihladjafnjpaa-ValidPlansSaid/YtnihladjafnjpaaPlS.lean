/-
  Two rows of the same directories, walked: they are the same.
-/
import Derived.Test.YtnihladjafnjpaaPlA
namespace Go.Proofs.Ytnihladjafnjpaa
open Go.RowKit
set_option linter.unusedVariables false

set_option maxRecDepth 100000 in
set_option maxHeartbeats 2000000 in
theorem dsame_any (w : World) (A B : Option Addr) (n c d : Nat) (l : List dr.Dr) (hl : l.length = n) (hn : n ≤ 1000000000) (hr : Row w w.heap.size A (dcs l)) (hs : Row w w.heap.size B (dcs l)) :
    Calls Try.prog 20 #[.slice A n c, .slice B n d] w fun e w' => e = .returned (.bool true) ∧ Below w.heap.size w w' := by
  have HL := hide hl
  have HR := hide hr
  have HS := hide hs
  have hnn : ((n : Int) != n) = false := by simp
  clear hl hr hs
  go_enter Try.func20, Try.ntmps20
  go_wp2_with fail
  go_loopw [5] (fun i wr => ∃ j : Nat, i = .int .i64 j ∧ j ≤ n ∧ Hid (Le w wr)) (fun i _ => n - (intOf i).toNat)
  case atStart => exact ⟨0, rfl, Nat.zero_le _, hide (Le.refl _)⟩
  case round =>
    obtain ⟨j, rfl, hj, HB⟩ := hrel
    by_cases hjn : j < n
    · obtain ⟨u, hu⟩ : ∃ u, l[j]? = some u := ⟨_, List.getElem?_eq_getElem (by rw [HL.out]; exact hjn)⟩
      obtain ⟨bA, oA, rfl, hbA, r0, r1, r2⟩ := row_dr HR.out hu
      obtain ⟨bB, oB, rfl, hbB, s0, s1, s2⟩ := row_dr HS.out hu
      obtain ⟨V, hV⟩ : ∃ V, wr.drew = V := ⟨_, rfl⟩
      have HLV := hide (show Le w V by rw [← hV]; exact HB.out.drew)
      have HV := hide hV
      obtain ⟨uk, uf, ut⟩ := u
      simp only at r0 r1 r2 s0 s1 s2
      have e0 : ∀ W, Le V W → W.cell? ⟨bA, oA + j * 3, none⟩ = some (.int .i64 uk) := fun W h => ((HLV.out.trans h).cell (p := ⟨bA, oA + j * 3, none⟩) hbA).trans r0
      have e1 : ∀ W, Le V W → W.cell? ⟨bA, oA + j * 3 + 1, none⟩ = some (.int .i64 uf) := fun W h => ((HLV.out.trans h).cell (p := ⟨bA, oA + j * 3 + 1, none⟩) hbA).trans r1
      have e2 : ∀ W, Le V W → W.cell? ⟨bA, oA + j * 3 + 2, none⟩ = some (.int .i64 ut) := fun W h => ((HLV.out.trans h).cell (p := ⟨bA, oA + j * 3 + 2, none⟩) hbA).trans r2
      have f0 : ∀ W, Le V W → W.cell? ⟨bB, oB + j * 3, none⟩ = some (.int .i64 uk) := fun W h => ((HLV.out.trans h).cell (p := ⟨bB, oB + j * 3, none⟩) hbB).trans s0
      have f1 : ∀ W, Le V W → W.cell? ⟨bB, oB + j * 3 + 1, none⟩ = some (.int .i64 uf) := fun W h => ((HLV.out.trans h).cell (p := ⟨bB, oB + j * 3 + 1, none⟩) hbB).trans s1
      have f2 : ∀ W, Le V W → W.cell? ⟨bB, oB + j * 3 + 2, none⟩ = some (.int .i64 ut) := fun W h => ((HLV.out.trans h).cell (p := ⟨bB, oB + j * 3 + 2, none⟩) hbB).trans s2
      have hnj : (j : Int) < n := by omega
      clear r0 r1 r2 s0 s1 s2 hu hV
      go_upto_region 6 with fail
      refine region_pi [(0, true), (1, true), (2, true), (3, true), (4, true), (5, true), (6, true), (7, true), (8, true)] (by kernel_rfl) (by kernel_rfl) ?_
      simp only [opsPi, List.filterMap_cons, List.filterMap_nil, List.getElem?_toArray, List.getElem?_cons_zero, List.getElem?_cons_succ, Option.map_some]
      rw [HV.out]
      repeat (first | (refine pi_take (v := _) rfl (fun W hW => by go_simp <;> exact rfl) ?_; simp only [Act.put, List.setIfInBounds_toArray, List.set_cons_zero, List.set_cons_succ]) | (refine pi_skip rfl ?_; simp only [Act.put, List.setIfInBounds_toArray, List.set_cons_zero, List.set_cons_succ]))
      refine pi_done ?_
      go_wp2_with fail
      exact ⟨⟨j + 1, by go_num, by omega, HLV⟩, by simp [intOf]; omega⟩
    · obtain rfl : j = n := by omega
      go_wp2_with fail
      go_ret
      exact ⟨rfl, HB.out⟩
#print axioms dsame_any
end Go.Proofs.Ytnihladjafnjpaa
