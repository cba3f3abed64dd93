/-
  Two rows of the same rows with keys, walked: they are the same.
-/
import Derived.Test.YtjedpjfmlaganaaDoorVwO
namespace Go.Proofs.YtjedpjfmlaganaaDoor.vw
open Go.RowKit
set_option linter.unusedVariables false

set_option maxRecDepth 100000 in
set_option maxHeartbeats 2000000 in
theorem samerow_any (w : World) (A B : Option Addr) (n c d : Nat) (l : List va.Val) (hl : l.length = n) (hn : n * 32 ≤ 140737488355328) (hr : Row w w.heap.size A (vcs l)) (hs : Row w w.heap.size B (vcs l)) :
    Calls Tryd.prog 20 #[.slice A n c, .slice B n d] w fun e w' => e = .returned (.bool true) ∧ Below w.heap.size w w' := by
  have HL := hide hl
  have HR := hide hr
  have HS := hide hs
  have hnn : ((n : Int) != n) = false := by simp
  clear hl hr hs
  go_enter Tryd.func20, Tryd.ntmps20
  go_wp2_with fail
  go_loopw [5] (fun i wr => ∃ j : Nat, i = .int .i64 j ∧ j ≤ n ∧ Hid (Le w wr)) (fun i _ => n - (intOf i).toNat)
  case atStart => exact ⟨0, rfl, Nat.zero_le _, hide (Le.refl _)⟩
  case round =>
    obtain ⟨j, rfl, hj, HB⟩ := hrel
    by_cases hjn : j < n
    · obtain ⟨u, hu⟩ : ∃ u, l[j]? = some u := ⟨_, List.getElem?_eq_getElem (by rw [HL.out]; exact hjn)⟩
      obtain ⟨bA, oA, rfl, hbA, r0, r1, r2⟩ := row_at3 HR.out hu
      obtain ⟨bB, oB, rfl, hbB, s0, s1, s2⟩ := row_at3 HS.out hu
      obtain ⟨V, hV⟩ : ∃ V, wr.drew = V := ⟨_, rfl⟩
      have HLV := hide (show Le w V by rw [← hV]; exact HB.out.drew)
      have HV := hide hV
      have e0 : ∀ W, Le V W → W.cell? ⟨bA, oA + j * 3, none⟩ = some (.bool u.nul) := fun W h => ((HLV.out.trans h).cell (p := ⟨bA, oA + j * 3, none⟩) hbA).trans r0
      have e1 : ∀ W, Le V W → W.cell? ⟨bA, oA + j * 3 + 1, none⟩ = some (.int .i64 u.n) := fun W h => ((HLV.out.trans h).cell (p := ⟨bA, oA + j * 3 + 1, none⟩) hbA).trans r1
      have e2 : ∀ W, Le V W → W.cell? ⟨bA, oA + j * 3 + 2, none⟩ = some (.string u.s) := fun W h => ((HLV.out.trans h).cell (p := ⟨bA, oA + j * 3 + 2, none⟩) hbA).trans r2
      have f0 : ∀ W, Le V W → W.cell? ⟨bB, oB + j * 3, none⟩ = some (.bool u.nul) := fun W h => ((HLV.out.trans h).cell (p := ⟨bB, oB + j * 3, none⟩) hbB).trans s0
      have f1 : ∀ W, Le V W → W.cell? ⟨bB, oB + j * 3 + 1, none⟩ = some (.int .i64 u.n) := fun W h => ((HLV.out.trans h).cell (p := ⟨bB, oB + j * 3 + 1, none⟩) hbB).trans s1
      have f2 : ∀ W, Le V W → W.cell? ⟨bB, oB + j * 3 + 2, none⟩ = some (.string u.s) := fun W h => ((HLV.out.trans h).cell (p := ⟨bB, oB + j * 3 + 2, none⟩) hbB).trans s2
      have hnj : (j : Int) < n := by omega
      clear r0 r1 r2 s0 s1 s2 hu hV
      go_upto_region 6 with fail
      refine region_pi [(0, true), (1, true), (2, true), (3, true), (4, true), (5, true), (6, true), (7, true), (8, true)] (by kernel_rfl) (by kernel_rfl) ?_
      simp only [opsPi, List.filterMap_cons, List.filterMap_nil, List.getElem?_toArray, List.getElem?_cons_zero, List.getElem?_cons_succ, Option.map_some]
      rw [HV.out]
      repeat (first | (refine pi_take (v := _) rfl (fun W hW => by go_simp <;> exact rfl) ?_; simp only [Act.put, List.setIfInBounds_toArray, List.set_cons_zero, List.set_cons_succ]) | (refine pi_skip rfl ?_; simp only [Act.put, List.setIfInBounds_toArray, List.set_cons_zero, List.set_cons_succ]))
      refine pi_done ?_
      go_wp2_with fail
      exact ⟨⟨j + 1, by go_num, by omega, HLV⟩, by simp [intOf]; omega⟩
    · obtain rfl : j = n := by omega
      have hle : ¬ (j : Int) < j := by omega
      go_wp2_with fail
      go_ret
      exact ⟨rfl, HB.out⟩
#print axioms samerow_any
theorem same_at {S T : List Kd} (h : S.map cont = T.map cont) {j : Nat} {x : Kd} (hx : S[j]? = some x) : ∃ y, T[j]? = some y ∧ y.k = x.k ∧ y.vals = x.vals := by
  have e : (T.map cont)[j]? = some (cont x) := by rw [← h, List.getElem?_map, hx]; rfl
  rw [List.getElem?_map] at e
  obtain ⟨y, hy, e2⟩ := Option.map_eq_some_iff.1 e
  unfold cont at e2
  simp only [Prod.mk.injEq] at e2
  exact ⟨y, hy, e2.1, e2.2⟩
set_option maxRecDepth 100000 in
set_option maxHeartbeats 4000000 in
theorem same_any (w : World) (A B : Option Addr) (n c d : Nat) (S T : List Kd) (hl : S.length = n) (hn : n ≤ 1000000) (hST : S.map cont = T.map cont) (hr : Row w w.heap.size A (kcs S)) (hs : Row w w.heap.size B (kcs T)) (hkS : ∀ x ∈ S, KHas w w.heap.size x) (hkT : ∀ x ∈ T, KHas w w.heap.size x) :
    Calls Tryd.prog 10 #[.slice A n c, .slice B n d] w fun e w' => e = .returned (.bool true) ∧ Below w.heap.size w w' := by
  have HL := hide hl
  have HR := hide hr
  have HS := hide hs
  have HST := hide hST
  have HKS := hide hkS
  have HKT := hide hkT
  have hnn : ((n : Int) != n) = false := by simp
  clear hl hr hs hST hkS hkT
  go_enter Tryd.func10, Tryd.ntmps10
  go_wp2_with fail
  go_loopw [5] (fun i wr => ∃ j : Nat, i = .int .i64 j ∧ j ≤ n ∧ Hid (Le w wr)) (fun i _ => n - (intOf i).toNat)
  case atStart => exact ⟨0, rfl, Nat.zero_le _, hide (Le.refl _)⟩
  case round =>
    obtain ⟨j, rfl, hj, HB⟩ := hrel
    by_cases hjn : j < n
    · obtain ⟨x, hx⟩ : ∃ x, S[j]? = some x := ⟨_, List.getElem?_eq_getElem (by rw [HL.out]; exact hjn)⟩
      obtain ⟨y, hy, hyk, hyv⟩ := same_at HST.out hx
      have hkx := HKS.out x (List.mem_of_getElem? hx)
      have hky := HKT.out y (List.mem_of_getElem? hy)
      obtain ⟨bA, oA, rfl, hbA, r0, r1, r2, r3⟩ := row_kd HR.out hx
      obtain ⟨bB, oB, rfl, hbB, s0, s1, s2, s3⟩ := row_kd HS.out hy
      rw [hyk] at s0 s1 s2
      have hyn : y.n = x.n := by rw [← hky.1, ← hkx.1, hyv]
      rw [hyn] at s3
      have hrx := hkx.2.2
      have hry := hky.2.2
      rw [hyv] at hry
      have hnj : (j : Int) < n := by omega
      obtain ⟨V, hV⟩ : ∃ V, wr.drew = V := ⟨_, rfl⟩
      have HLV := hide (show Le w V by rw [← hV]; exact HB.out.drew)
      have e3 : ∀ W, Le V W → W.cell? ⟨bA, oA + j * 4 + 3, none⟩ = some (.slice x.A x.n x.c) := fun W h => ((HLV.out.trans h).cell (p := ⟨bA, oA + j * 4 + 3, none⟩) hbA).trans r3
      have f3 : ∀ W, Le V W → W.cell? ⟨bB, oB + j * 4 + 3, none⟩ = some (.slice y.A x.n y.c) := fun W h => ((HLV.out.trans h).cell (p := ⟨bB, oB + j * 4 + 3, none⟩) hbB).trans s3
      have hsr := hide (samerow_any V x.A y.A x.n x.c y.c x.vals hkx.1 hkx.2.1 ((HLV.out.row hrx (Nat.le_refl _)).more HLV.out.size) ((HLV.out.row hry (Nat.le_refl _)).more HLV.out.size))
      have HV := hide hV
      have HC := hide (And.intro r0 (And.intro r1 (And.intro r2 (And.intro s0 (And.intro s1 s2)))))
      clear r0 r1 r2 r3 s0 s1 s2 s3 hx hy hyk hyv hkx hky hyn hrx hry hV
      go_upto_region 6 with fail
      refine region_pi [(0, true), (1, true), (2, true), (3, true), (4, true), (5, true), (6, true), (7, true), (8, true), (9, true), (10, false), (11, true)] (by kernel_rfl) (by kernel_rfl) ?_
      simp only [opsPi, List.filterMap_cons, List.filterMap_nil, List.getElem?_toArray, List.getElem?_cons_zero, List.getElem?_cons_succ, Option.map_some]
      rw [HV.out]
      repeat (first | (refine pi_take (v := _) rfl (fun W hW => by go_simp <;> exact rfl) ?_; simp only [Act.put, List.setIfInBounds_toArray, List.set_cons_zero, List.set_cons_succ]) | (refine pi_skip rfl ?_; simp only [Act.put, List.setIfInBounds_toArray, List.set_cons_zero, List.set_cons_succ]))
      clear e3 f3
      refine pi_run ?_
      go_wp2_with fail
      refine hsr.out.mono ?_
      rintro e W1 ⟨rfl, hb⟩
      have HB1 := hide (show Le V W1 from hb)
      clear hb
      go_wp2_with fail
      refine ⟨HB1.out, ?_⟩
      repeat (first | (refine pi_take (v := _) rfl (fun W hW => by go_simp <;> exact rfl) ?_; simp only [Act.put, List.setIfInBounds_toArray, List.set_cons_zero, List.set_cons_succ]) | (refine pi_skip rfl ?_; simp only [Act.put, List.setIfInBounds_toArray, List.set_cons_zero, List.set_cons_succ]))
      refine pi_done ?_
      have HL1 := hide (HLV.out.trans HB1.out)
      go_upto_region 7 with fail
      obtain ⟨U, hU⟩ : ∃ U, W1.drew = U := ⟨_, rfl⟩
      have HLU := hide (show Le w U by rw [← hU]; exact HL1.out.drew)
      have HU := hide hU
      have e0 : ∀ W, Le U W → W.cell? ⟨bA, oA + j * 4, none⟩ = some (.int .i64 x.k.id) := fun W h => ((HLU.out.trans h).cell (p := ⟨bA, oA + j * 4, none⟩) hbA).trans HC.out.1
      have e1 : ∀ W, Le U W → W.cell? ⟨bA, oA + j * 4 + 1, none⟩ = some (.int .i64 x.k.bk) := fun W h => ((HLU.out.trans h).cell (p := ⟨bA, oA + j * 4 + 1, none⟩) hbA).trans HC.out.2.1
      have e2 : ∀ W, Le U W → W.cell? ⟨bA, oA + j * 4 + 2, none⟩ = some (.int .i64 x.k.rw) := fun W h => ((HLU.out.trans h).cell (p := ⟨bA, oA + j * 4 + 2, none⟩) hbA).trans HC.out.2.2.1
      have f0 : ∀ W, Le U W → W.cell? ⟨bB, oB + j * 4, none⟩ = some (.int .i64 x.k.id) := fun W h => ((HLU.out.trans h).cell (p := ⟨bB, oB + j * 4, none⟩) hbB).trans HC.out.2.2.2.1
      have f1 : ∀ W, Le U W → W.cell? ⟨bB, oB + j * 4 + 1, none⟩ = some (.int .i64 x.k.bk) := fun W h => ((HLU.out.trans h).cell (p := ⟨bB, oB + j * 4 + 1, none⟩) hbB).trans HC.out.2.2.2.2.1
      have f2 : ∀ W, Le U W → W.cell? ⟨bB, oB + j * 4 + 2, none⟩ = some (.int .i64 x.k.rw) := fun W h => ((HLU.out.trans h).cell (p := ⟨bB, oB + j * 4 + 2, none⟩) hbB).trans HC.out.2.2.2.2.2
      clear hU
      refine region_pi [(0, true), (1, true), (2, true), (3, true), (4, true), (5, true), (6, true), (7, true), (8, true), (9, true), (10, true), (11, true), (12, true), (13, true), (14, true)] (by kernel_rfl) (by kernel_rfl) ?_
      simp only [opsPi, List.filterMap_cons, List.filterMap_nil, List.getElem?_toArray, List.getElem?_cons_zero, List.getElem?_cons_succ, Option.map_some]
      rw [HU.out]
      repeat (first | (refine pi_take (v := _) rfl (fun W hW => by go_simp <;> exact rfl) ?_; simp only [Act.put, List.setIfInBounds_toArray, List.set_cons_zero, List.set_cons_succ]) | (refine pi_skip rfl ?_; simp only [Act.put, List.setIfInBounds_toArray, List.set_cons_zero, List.set_cons_succ]))
      refine pi_done ?_
      go_wp2_with fail
      exact ⟨⟨j + 1, by go_num, by omega, HLU⟩, by simp [intOf]; omega⟩
    · obtain rfl : j = n := by omega
      have hle : ¬ (j : Int) < j := by omega
      go_wp2_with fail
      go_ret
      exact ⟨rfl, HB.out⟩
#print axioms same_any
end Go.Proofs.YtjedpjfmlaganaaDoor.vw
