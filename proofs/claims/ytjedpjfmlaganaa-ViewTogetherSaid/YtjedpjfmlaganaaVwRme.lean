/-
  Rows with keys, together, by the document, walked.
-/
import Derived.Test.YtjedpjfmlaganaaVwRof
namespace Go.Proofs.Ytjedpjfmlaganaa.vw
open Go.RowKit
set_option linter.unusedVariables false

set_option maxRecDepth 100000 in
set_option maxHeartbeats 4000000 in
theorem rmerge_any (w : World) (RA RB : Option Addr) (n1 n2 ca cb : Nat) (l1 l2 : List Kd) (hl1 : l1.length = n1) (hl2 : l2.length = n2) (hn1 : n1 ≤ 60) (hn2 : n2 ≤ 60) (hr1 : Row w w.heap.size RA (kcs l1)) (hr2 : Row w w.heap.size RB (kcs l2)) :
    Calls Try.prog 12 #[.slice RA n1 ca, .slice RB n2 cb] w fun e w' => ∃ g' n' c', e = .returned (.slice (some ⟨g', 0, none⟩) n' c') ∧ n' = ((l1 ++ l2).foldl (putK Kd.k) []).length ∧ n' ≤ 120 ∧ w'.ownsRow w.heap.size 47 4 (.slice (some ⟨g', 0, none⟩) n' c') n' (kcs ((l1 ++ l2).foldl (putK Kd.k) [])) ∧ Le w w' := by
  obtain ⟨X, hX, ho2, hlx⟩ : ∃ X, w.alloc (.cells #[] 47) = X ∧ X.ownsRow w.heap.size 47 4 (.slice (some ⟨w.heap.size, 0, none⟩) 0 0) 0 [] ∧ Le w X := ⟨_, rfl, own_zero w _ (Nat.le_refl _) _ _, (Below.refl _ _).alloc (Nat.le_refl _) _⟩
  have HX := hide hX
  have HOX := hide ho2
  have HLX := hide hlx
  have HL1 := hide hl1
  have HL2 := hide hl2
  have HR1 := hide hr1
  have HR2 := hide hr2
  clear hX ho2 hlx hl1 hl2 hr1 hr2
  go_enter Try.func12, Try.ntmps12
  go_upto_region 2 with fail
  rw [HX.out]
  go_wp2_with fail
  go_loopw [5, 6] (fun s t wr => ∃ (i g' k' c' : Nat) (L : List Kd), s = .slice (some ⟨g', 0, none⟩) k' c' ∧ t = .int .i64 i ∧ i ≤ n1 ∧ k' ≤ i ∧ Hid ((l1.take i).foldl (putK Kd.k) [] = L) ∧ Hid (k' = L.length) ∧ Hid (wr.ownsRow w.heap.size 47 4 (.slice (some ⟨g', 0, none⟩) k' c') k' (kcs L)) ∧ Hid (Le w wr)) (fun _ t _ => n1 - (intOf t).toNat)
  case atStart => exact ⟨0, _, 0, 0, [], rfl, rfl, Nat.zero_le _, Nat.le_refl _, hide rfl, hide rfl, HOX, HLX⟩
  case round =>
    obtain ⟨i, g1, k1, c1, L, rfl, rfl, hi, hki, HLL, HKL, HO, HLr⟩ := hrel
    by_cases hir : i < n1
    · obtain ⟨u, hu⟩ : ∃ u, l1[i]? = some u := ⟨_, List.getElem?_eq_getElem (by rw [HL1.out]; exact hir)⟩
      obtain ⟨bA, oA, rfl, hbA, r0, r1, r2, r3⟩ := row_kd HR1.out hu
      have hiI : (i : Int) < n1 := by omega
      have HTS := hide (show (l1.take (i + 1)).foldl (putK Kd.k) [] = putK Kd.k L u by rw [take_snoc hu, List.foldl_append, HLL.out]; rfl)
      have f0 : wr.cell? ⟨bA, oA + i * 4, none⟩ = some (.int .i64 u.k.id) := (HLr.out.cell (p := ⟨bA, oA + i * 4, none⟩) hbA).trans r0
      have f1 : wr.cell? ⟨bA, oA + i * 4 + 1, none⟩ = some (.int .i64 u.k.bk) := (HLr.out.cell (p := ⟨bA, oA + i * 4 + 1, none⟩) hbA).trans r1
      have f2 : wr.cell? ⟨bA, oA + i * 4 + 2, none⟩ = some (.int .i64 u.k.rw) := (HLr.out.cell (p := ⟨bA, oA + i * 4 + 2, none⟩) hbA).trans r2
      have f3 : wr.cell? ⟨bA, oA + i * 4 + 3, none⟩ = some (.slice u.A u.n u.c) := (HLr.out.cell (p := ⟨bA, oA + i * 4 + 3, none⟩) hbA).trans r3
      have hpt := hide (rput_any wr w.heap.size g1 k1 c1 L u HLr.out.size (by omega) HO.out)
      clear r0 r1 r2 r3 hu
      go_wp2_with fail
      refine hpt.out.mono ?_
      rintro e w4 ⟨g2, k2, c2, rfl, h1, h2, h3, h4⟩
      have H1 := hide h1
      have H2 := hide h2
      have H4 := hide (HLr.out.trans h4)
      clear h1 h2 h4 f0 f1 f2 f3 hpt
      go_wp2_with fail
      exact ⟨⟨i + 1, g2, k2, c2, _, rfl, by go_num, by omega, by omega, HTS, H2, H1, H4⟩, by simp [intOf]; omega⟩
    · obtain rfl : i = n1 := by omega
      have hle : ¬ (i : Int) < i := by omega
      have hall : l1.take i = l1 := List.take_of_length_le (by rw [HL1.out]; exact Nat.le_refl _)
      rw [hall] at HLL
      go_wp2_with fail
      go_loopw [5, 7] (fun s t wr => ∃ (j g' k' c' : Nat) (M : List Kd), s = .slice (some ⟨g', 0, none⟩) k' c' ∧ t = .int .i64 j ∧ j ≤ n2 ∧ k' ≤ i + j ∧ Hid ((l2.take j).foldl (putK Kd.k) L = M) ∧ Hid (k' = M.length) ∧ Hid (wr.ownsRow w.heap.size 47 4 (.slice (some ⟨g', 0, none⟩) k' c') k' (kcs M)) ∧ Hid (Le w wr)) (fun _ t _ => n2 - (intOf t).toNat)
      case atStart => exact ⟨0, g1, k1, c1, L, rfl, rfl, Nat.zero_le _, by omega, hide rfl, HKL, HO, HLr⟩
      case round =>
        clear HO HKL HLr hle
        obtain ⟨j, g1, k1, c1, M, rfl, rfl, hj, hkj, HMM, HKL, HO, HLr⟩ := hrel
        by_cases hjr : j < n2
        · obtain ⟨u, hu⟩ : ∃ u, l2[j]? = some u := ⟨_, List.getElem?_eq_getElem (by rw [HL2.out]; exact hjr)⟩
          obtain ⟨bA, oA, rfl, hbA, r0, r1, r2, r3⟩ := row_kd HR2.out hu
          have hjI : (j : Int) < n2 := by omega
          have HTS := hide (show (l2.take (j + 1)).foldl (putK Kd.k) L = putK Kd.k M u by rw [take_snoc hu, List.foldl_append, HMM.out]; rfl)
          have f0 : wr.cell? ⟨bA, oA + j * 4, none⟩ = some (.int .i64 u.k.id) := (HLr.out.cell (p := ⟨bA, oA + j * 4, none⟩) hbA).trans r0
          have f1 : wr.cell? ⟨bA, oA + j * 4 + 1, none⟩ = some (.int .i64 u.k.bk) := (HLr.out.cell (p := ⟨bA, oA + j * 4 + 1, none⟩) hbA).trans r1
          have f2 : wr.cell? ⟨bA, oA + j * 4 + 2, none⟩ = some (.int .i64 u.k.rw) := (HLr.out.cell (p := ⟨bA, oA + j * 4 + 2, none⟩) hbA).trans r2
          have f3 : wr.cell? ⟨bA, oA + j * 4 + 3, none⟩ = some (.slice u.A u.n u.c) := (HLr.out.cell (p := ⟨bA, oA + j * 4 + 3, none⟩) hbA).trans r3
          have hpt := hide (rput_any wr w.heap.size g1 k1 c1 M u HLr.out.size (by omega) HO.out)
          clear r0 r1 r2 r3 hu
          go_wp2_with fail
          refine hpt.out.mono ?_
          rintro e w4 ⟨g2, k2, c2, rfl, h1, h2, h3, h4⟩
          have H1 := hide h1
          have H2 := hide h2
          have H4 := hide (HLr.out.trans h4)
          clear h1 h2 h4 f0 f1 f2 f3 hpt
          go_wp2_with fail
          exact ⟨⟨j + 1, g2, k2, c2, _, rfl, by go_num, by omega, by omega, HTS, H2, H1, H4⟩, by simp [intOf]; omega⟩
        · obtain rfl : j = n2 := by omega
          have hle : ¬ (j : Int) < j := by omega
          have hall : l2.take j = l2 := List.take_of_length_le (by rw [HL2.out]; exact Nat.le_refl _)
          rw [hall] at HMM
          have HFF := hide (show (l1 ++ l2).foldl (putK Kd.k) [] = M by rw [List.foldl_append, HLL.out, HMM.out])
          go_wp2_with fail
          go_ret
          refine ⟨g1, k1, c1, rfl, ?_, by omega, ?_, HLr.out⟩
          · have := HFF.out
            rw [List.foldl_append] at this
            rw [this]
            exact HKL.out
          · have := HFF.out
            rw [List.foldl_append] at this
            rw [this]
            exact HO.out
#print axioms rmerge_any
end Go.Proofs.Ytjedpjfmlaganaa.vw
