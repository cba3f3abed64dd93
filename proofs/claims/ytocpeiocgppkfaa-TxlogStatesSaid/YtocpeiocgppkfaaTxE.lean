/-
  What becomes of write-ids, walked: records as the program has them.
-/
import Derived.Test.YtocpeiocgppkfaaTxD
import Derived.Test.YtocpeiocgppkfaaRegionB
namespace Go.Proofs.Ytocpeiocgppkfaa
open Go.RowKit
set_option linter.unusedVariables false

theorem few_any (w : World) (A : Option Addr) (n c : Nat) (hnc : n ≤ c) (hc : c ≤ maxLen) :
    Calls Try.prog 8 #[.slice A n c] w fun e w' => e = .returned (.slice A (min n 60) c) ∧ w = w' := by
  unfold maxLen at hc
  by_cases h : 60 < n
  · rw [Nat.min_eq_right (by omega)]
    go_enter Try.func8, Try.ntmps8
    go_wp2_with fail
    go_ret
    exact ⟨rfl, rfl⟩
  · rw [Nat.min_eq_left (by omega)]
    go_enter Try.func8, Try.ntmps8
    go_wp2_with fail
    go_ret
    exact ⟨rfl, rfl⟩

theorem infoR : (Try.prog.info? 35).map (fun i => (i.zero, i.size, i.bytes)) = some (some (.agg #[.int .i64 0, .int .i64 0]), 2, 16) := by kernel_rfl
theorem rcs_take_succ {l : List (Int × Int)} {k : Nat} {op id : Int} (h : l[k]? = some (op, id)) : rcs (l.take (k + 1)) = rcs (l.take k) ++ [.int .i64 op, .int .i64 id] := by
  rw [List.take_add_one, h, rcs_append]
  rfl
theorem rec_row (w : World) (op id : Int) (t : TypeId) : Row (w.alloc (.cells #[.int .i64 op, .int .i64 id] t)) (w.heap.size + 1) (some ⟨w.heap.size, 0, none⟩) [.int .i64 op, .int .i64 id] := row_new w #[.int .i64 op, .int .i64 id] t (0, 0)
set_option maxHeartbeats 4000000 in
theorem ours_any (w : World) (A : Option Addr) (n c : Nat) (l : List (Int × Int)) (hl : l.length = n) (hn : n ≤ 9223372036854775807) (hr : Row w w.heap.size A (rcs l)) :
    Calls Try.prog 10 #[.slice A n c] w (Gives w.heap.size 35 2 (min n 60) (rcs (l.take 60)) w) := by
  have HL := hide hl
  clear hl
  obtain ⟨N, hN⟩ : ∃ N, min n 60 = N := ⟨_, rfl⟩
  rw [hN]
  have hN1 : N ≤ n := by omega
  have hN2 : N ≤ 60 := by omega
  have HN := hide hN
  have HT := hide (show rcs (l.take 60) = rcs (l.take N) by
    by_cases h : n ≤ 60
    · rw [show N = n by omega, List.take_of_length_le (by rw [HL.out]; exact h), List.take_of_length_le (by rw [HL.out]; exact Nat.le_refl _)]
    · rw [show N = 60 by omega])
  clear hN
  go_enter Try.func10, Try.ntmps10
  go_wp2_with fail
  obtain ⟨W0, hW0⟩ : ∃ W0, w.alloc (.cells #[] 35) = W0 := ⟨_, rfl⟩
  rw [hW0]
  have hs1 : W0.ownsRow w.heap.size 35 2 (.slice (some ⟨w.heap.size, 0, none⟩) 0 0) 0 (rcs []) := by rw [← hW0]; exact World.ownsRow_lit _ #[] 0 (Nat.le_refl _) (by simp) rfl
  have hs2 : Below w.heap.size w W0 := by rw [← hW0]; exact (Below.refl _ _).alloc (Nat.le_refl _) _
  clear hW0
  go_loopw [3, 4] (fun v i wr => ∃ (k c3 : Nat) (A3 : Option Addr), k ≤ N ∧ i = .int .i64 k ∧ v = .slice A3 k c3 ∧ Hid (wr.ownsRow w.heap.size 35 2 (.slice A3 k c3) k (rcs (l.take k))) ∧ Hid (Below w.heap.size w wr)) (fun _ i _ => N - (intOf i).toNat)
  case atStart => exact ⟨0, 0, _, Nat.zero_le _, rfl, rfl, hide (by simpa using hs1), hide hs2⟩
  case round =>
    obtain ⟨k, c3, A3, hk, rfl, rfl, HO, HB⟩ := hrel
    have hz := HB.out.size
    by_cases hkn : k < N
    · obtain ⟨⟨op, id⟩, hx⟩ : ∃ x, l[k]? = some x := ⟨_, List.getElem?_eq_getElem (by rw [HL.out]; omega)⟩
      obtain ⟨bA, oA, rfl, hbA, hc0⟩ := hr.at_ (rcs_at hx).1
      obtain ⟨bB, oB, e2, hbB, hc1⟩ := hr.at_ (rcs_at hx).2
      injection e2 with e2
      injection e2 with e2 e3 e4
      subst e2
      subst e3
      have hd0 : wr.cell? ⟨bA, oA + k * 2, none⟩ = some (.int .i64 op) := (HB.out.cell (p := ⟨bA, oA + k * 2, none⟩) hbA).trans hc0
      have hd1 : wr.cell? ⟨bA, oA + k * 2 + 1, none⟩ = some (.int .i64 id) := (HB.out.cell (p := ⟨bA, oA + k * 2 + 1, none⟩) hbA).trans hc1
      have HS := hide (rcs_take_succ hx)
      obtain ⟨V, hV⟩ : ∃ V, wr.drew = V := ⟨_, rfl⟩
      have HB1 := hide (show Below w.heap.size w V by rw [← hV]; exact HB.out.drew)
      have HO1 := hide (show V.ownsRow w.heap.size 35 2 (.slice A3 k c3) k (rcs (l.take k)) by rw [← hV]; exact HO.out)
      have g0 : ∀ W', Below w.heap.size V W' → W'.cell? ⟨bA, oA + k * 2, none⟩ = some (.int .i64 op) := fun W' h => (h.cell (p := ⟨bA, oA + k * 2, none⟩) hbA).trans (by rw [← hV]; exact hd0)
      have g1 : ∀ W', Below w.heap.size V W' → W'.cell? ⟨bA, oA + k * 2 + 1, none⟩ = some (.int .i64 id) := fun W' h => (h.cell (p := ⟨bA, oA + k * 2 + 1, none⟩) hbA).trans (by rw [← hV]; exact hd1)
      have HV := hide hV
      have hkn2 : k < n := by omega
      have hk60 : (k : Int) < 60 := by omega
      have hzV : w.heap.size ≤ V.heap.size := HB1.out.size
      clear hx hc0 hc1 e4 hV hd0 hd1
      go_wp2_with fail
      refine region_pib (B := w.heap.size) [(0, true), (1, true), (2, true), (3, true), (4, true), (5, true), (6, true), (7, true), (8, true), (9, true), (10, true), (11, true), (12, false), (13, false), (14, true)] (by kernel_rfl) (by kernel_rfl) ?_
      simp only [opsPi, List.filterMap_cons, List.filterMap_nil, List.getElem?_toArray, List.getElem?_cons_zero, List.getElem?_cons_succ, Option.map_some]
      rw [HV.out]
      repeat (first | (refine pib_take (v := _) rfl (fun W hW => by go_simp <;> exact rfl) ?_; simp only [Act.put, List.setIfInBounds_toArray, List.set_cons_zero, List.set_cons_succ]) | (refine pib_skip rfl ?_; simp only [Act.put, List.setIfInBounds_toArray, List.set_cons_zero, List.set_cons_succ]))
      refine pib_run ?_
      go_wp2_with fail
      refine ⟨(Below.refl _ _).alloc hzV _, ?_⟩
      repeat (first | (refine pib_take (v := _) rfl (fun W hW => by go_simp <;> exact rfl) ?_; simp only [Act.put, List.setIfInBounds_toArray, List.set_cons_zero, List.set_cons_succ]) | (refine pib_skip rfl ?_; simp only [Act.put, List.setIfInBounds_toArray, List.set_cons_zero, List.set_cons_succ]))
      refine pib_run ?_
      refine wpList_append_row _ rfl (.tmp 16) (.tmp 28) 31 rfl w.heap.size 35 infoR Try.underlying31 rfl (by omega) (.slice A3 k c3) k _ rfl (HO1.out.alloc _) _ (some ⟨V.heap.size, 0, none⟩) 1 1 [.int .i64 op, .int .i64 id] rfl rfl (rec_row V op id _) (by intro u hu; simp at hu; rcases hu with rfl | rfl <;> rfl) (by simp only [maxLen]; omega) (by omega) (by simp; omega) ?_
      intro v' w' hown' hg hat
      have hbb : Below w.heap.size (V.alloc (.cells #[.int .i64 op, .int .i64 id] 35)) w' := below_own hg (Nat.le_refl _) (by simp; omega) (fun g h => own_ge HO1.out h (Nat.le_refl _))
      have HB' := hide ((HB1.out.alloc hzV _).trans hbb)
      obtain ⟨A', c', rfl, -, -⟩ := own_form hown'
      have HO' := hide hown'
      have HBB := hide hbb
      clear hown' hg hat hbb
      go_wp2_with fail
      refine ⟨HBB.out, ?_⟩
      repeat (first | (refine pib_take (v := _) rfl (fun W hW => by go_simp <;> exact rfl) ?_; simp only [Act.put, List.setIfInBounds_toArray, List.set_cons_zero, List.set_cons_succ]) | (refine pib_skip rfl ?_; simp only [Act.put, List.setIfInBounds_toArray, List.set_cons_zero, List.set_cons_succ]))
      refine pib_done ?_
      go_wp2_with fail
      exact ⟨⟨k + 1, c', A', by omega, by go_num, rfl, hide (by rw [HS.out]; exact HO'.out), HB'⟩, by simp [intOf]; omega⟩
    · obtain rfl : k = N := by omega
      by_cases h60 : k = n
      · subst h60
        go_wp2_with fail
        go_ret
        exact ⟨_, rfl, by rw [HT.out]; exact HO.out, HB.out⟩
      · have hnn := HN.out
        obtain rfl : k = 60 := by omega
        have hlt : (60 : Int) < n := by omega
        go_wp2_with fail
        go_ret
        exact ⟨_, rfl, HO.out, HB.out⟩
#print axioms ours_any
end Go.Proofs.Ytocpeiocgppkfaa
