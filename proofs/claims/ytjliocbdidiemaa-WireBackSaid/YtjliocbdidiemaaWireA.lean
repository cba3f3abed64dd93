/-
  Fields, walked: at most 60 of them.
-/
import Derived.Test.YtjliocbdidiemaaZig
import Derived.Test.YtjliocbdidiemaaWireMath
import Derived.Test.YtjliocbdidiemaaBox
import Derived.Test.YtjliocbdidiemaaRegionB
namespace Go.Proofs.Ytjliocbdidiemaa
open Go.RowKit
set_option linter.unusedVariables false

theorem infoRF : (Try.prog.info? 36).map (fun i => (i.zero, i.size, i.bytes)) = some (some (.agg #[.int .i64 0, .bool false, .int .u64 0, .slice none 0 0]), 4, 48) := by kernel_rfl
theorem infoF : (Try.prog.info? 41).map (fun i => (i.zero, i.size, i.bytes)) = some (some (.agg #[.int .i64 0, .bool false, .int .u64 0, .slice none 0 0]), 4, 48) := by kernel_rfl
theorem row_cells4 (w : World) (a b c d : Value) (t : TypeId) : Row (w.alloc (.cells #[a, b, c, d] t)) (w.heap.size + 1) (some ⟨w.heap.size, 0, none⟩) [a, b, c, d] := row_new w #[a, b, c, d] t (0, 0)
theorem one4 (p : FV) : ∀ u ∈ cellsF p, u.oneCell' = true := by
  intro u hu
  simp [cellsF] at hu
  rcases hu with rfl | rfl | rfl | rfl <;> rfl
/-- An element's cells, in a later world. -/
theorem elem_cells {w wr : World} {B C : Nat} {A : Option Addr} {l : List FV} {k : Nat} {p : FV} (hr : Row w B A (fcs l)) (hx : l[k]? = some p) (hb : Below C w wr) (hC : B ≤ C) :
    ∃ b o, A = some ⟨b, o, none⟩ ∧ b < B ∧ wr.cell? ⟨b, o + k * 4, none⟩ = some (.int .i64 p.1.tag) ∧ wr.cell? ⟨b, o + k * 4 + 1, none⟩ = some (.bool p.1.isB) ∧ wr.cell? ⟨b, o + k * 4 + 2, none⟩ = some (.int .u64 (p.1.n : Int)) ∧ wr.cell? ⟨b, o + k * 4 + 3, none⟩ = some (.slice p.2.1 p.1.b.length p.2.2) := by
  obtain ⟨h0, h1, h2, h3⟩ := fcs_at hx
  obtain ⟨b, o, hA, hb', hc⟩ := (hr.below hb hC) (by rintro h; rw [h] at h0; simp at h0)
  exact ⟨b, o, hA, hb', hc _ _ h0, hc _ _ h1, hc _ _ h2, hc _ _ h3⟩

set_option maxRecDepth 100000 in
set_option maxHeartbeats 8000000 in
theorem few_any (w : World) (A : Option Addr) (n c : Nat) (l : List FV) (hl : l.length = n) (hn : n ≤ 9223372036854775807) (hr : Row w w.heap.size A (fcs l)) (hh : Held w w.heap.size l) :
    Calls Try.prog 7 #[.slice A n c] w (Gives w.heap.size 36 4 (min n 60) (fcs ((l.take 60).map cutV)) w) := by
  have HL := hide hl
  have HH := hide hh
  clear hl hh
  obtain ⟨N, hN⟩ : ∃ N, min n 60 = N := ⟨_, rfl⟩
  rw [hN]
  have hN1 : N ≤ n := by omega
  have hN2 : N ≤ 60 := by omega
  have HN := hide hN
  have HT := hide (show l.take 60 = l.take N by
    by_cases h : n ≤ 60
    · rw [show N = n by omega, List.take_of_length_le (by rw [HL.out]; exact h), List.take_of_length_le (by rw [HL.out]; exact Nat.le_refl _)]
    · rw [show N = 60 by omega])
  clear hN
  go_enter Try.func7, Try.ntmps7
  go_wp2_with fail
  obtain ⟨W0, hW0⟩ : ∃ W0, w.alloc (.cells #[] 36) = W0 := ⟨_, rfl⟩
  rw [hW0]
  have hs1 : W0.ownsRow w.heap.size 36 4 (.slice (some ⟨w.heap.size, 0, none⟩) 0 0) 0 (fcs []) := by rw [← hW0]; exact World.ownsRow_lit _ #[] 0 (Nat.le_refl _) (by simp) rfl
  have hs2 : Below w.heap.size w W0 := by rw [← hW0]; exact (Below.refl _ _).alloc (Nat.le_refl _) _
  clear hW0
  go_loopw [3, 4] (fun v i wr => ∃ (k c3 : Nat) (A3 : Option Addr), k ≤ N ∧ i = .int .i64 k ∧ v = .slice A3 k c3 ∧ Hid (wr.ownsRow w.heap.size 36 4 (.slice A3 k c3) k (fcs ((l.take k).map cutV))) ∧ Hid (Below w.heap.size w wr)) (fun _ i _ => N - (intOf i).toNat)
  case atStart => exact ⟨0, 0, _, Nat.zero_le _, rfl, rfl, hide (by simpa using hs1), hide hs2⟩
  case round =>
    obtain ⟨k, c3, A3, hk, rfl, rfl, HO, HB⟩ := hrel
    have hz := HB.out.size
    by_cases hkn : k < N
    · obtain ⟨p, hx⟩ : ∃ x, l[k]? = some x := ⟨_, List.getElem?_eq_getElem (by rw [HL.out]; omega)⟩
      obtain ⟨bA, oA, rfl, hbA, d0, d1, d2, d3⟩ := elem_cells hr hx HB.out (Nat.le_refl _)
      obtain ⟨hlc, hcm, -⟩ := HH.out.at_ hx
      have HS := hide (show fcs ((l.take (k + 1)).map cutV) = fcs ((l.take k).map cutV) ++ cellsF (cutV p) by rw [List.take_add_one, hx, List.map_append, fcs_append]; simp [fcs])
      have hkn2 : k < n := by omega
      have hk60 : (k : Int) < 60 := by omega
      obtain ⟨⟨tag, isB, m, b⟩, Ab, cb⟩ := p
      simp only at d0 d1 d2 d3 hlc
      unfold maxLen at hcm
      simp only at hcm
      obtain ⟨nb, hnb⟩ : ∃ nb, b.length = nb := ⟨_, rfl⟩
      rw [hnb] at d3 hlc
      have HNB := hide hnb
      clear hx hnb
      by_cases h300 : 300 < nb
      · have h300i : (300 : Int) < nb := by omega
        have HC := hide (show cellsF (cutV (⟨tag, isB, m, b⟩, Ab, cb)) = [.int .i64 tag, .bool isB, .int .u64 (m : Int), .slice Ab 300 cb] by simp only [cellsF, cutV, wi.cut, List.length_take, HNB.out]; congr; omega)
        have HS2 := hide (HS.out.trans (by rw [HC.out]))
        obtain ⟨W1, hW1⟩ : ∃ W1, wr.alloc (.cells #[.int .i64 tag, .bool isB, .int .u64 (m : Int), .slice Ab 300 cb] 36) = W1 := ⟨_, rfl⟩
        have hB1 : Below w.heap.size w W1 := by rw [← hW1]; exact HB.out.alloc hz _
        have hO1 : W1.ownsRow w.heap.size 36 4 (.slice A3 k c3) k (fcs ((l.take k).map cutV)) := by rw [← hW1]; exact HO.out.alloc _
        have hz1 : W1.heap.size = wr.heap.size + 1 := by rw [← hW1]; simp
        have HW1 := hide hW1
        have HB1 := hide hB1
        have HO1 := hide hO1
        have hrow := hide (row_cells4 W1 (.int .i64 tag) (.bool isB) (.int .u64 (m : Int)) (.slice Ab 300 cb) 36)
        rw [hz1] at hrow
        clear hW1 hB1 hO1
        go_wp2_with (at_builtin; rw [HW1.out]; refine wpList_append_row _ rfl (.tmp 29) (.tmp 31) 22 rfl w.heap.size 36 infoRF Try.underlying22 rfl (by omega) (.slice A3 k c3) k _ rfl (HO1.out.alloc _) _ (some ⟨wr.heap.size + 1, 0, none⟩) 1 1 _ rfl rfl hrow.out (by intro u hu; simp at hu; rcases hu with rfl | rfl | rfl | rfl <;> rfl) (by simp only [maxLen]; omega) (by omega) (by simp; omega) ?_; intro v' w' hown' hg hat; have hbb := below_own hg (Nat.le_refl w.heap.size) (by simp; omega) (fun g h => own_ge HO1.out h (Nat.le_refl _)); have HB' := hide ((HB1.out.alloc (by omega) _).trans hbb); obtain ⟨A', c', rfl, -, -⟩ := own_form hown'; have HO' := hide hown'; clear hown' hg hat hbb)
        exact ⟨⟨k + 1, c', A', by omega, by go_num, rfl, hide (by rw [HS2.out]; exact HO'.out), HB'⟩, by simp [intOf]; omega⟩
      · have h300i : decide ((300 : Int) < nb) = false := decide_eq_false (by omega)
        have HC := hide (show cellsF (cutV (⟨tag, isB, m, b⟩, Ab, cb)) = [.int .i64 tag, .bool isB, .int .u64 (m : Int), .slice Ab nb cb] by simp only [cellsF, cutV, wi.cut, List.length_take, HNB.out]; congr; omega)
        have HS2 := hide (HS.out.trans (by rw [HC.out]))
        obtain ⟨W1, hW1⟩ : ∃ W1, wr.alloc (.cells #[.int .i64 tag, .bool isB, .int .u64 (m : Int), .slice Ab nb cb] 36) = W1 := ⟨_, rfl⟩
        have hB1 : Below w.heap.size w W1 := by rw [← hW1]; exact HB.out.alloc hz _
        have hO1 : W1.ownsRow w.heap.size 36 4 (.slice A3 k c3) k (fcs ((l.take k).map cutV)) := by rw [← hW1]; exact HO.out.alloc _
        have hz1 : W1.heap.size = wr.heap.size + 1 := by rw [← hW1]; simp
        have HW1 := hide hW1
        have HB1 := hide hB1
        have HO1 := hide hO1
        have hrow := hide (row_cells4 W1 (.int .i64 tag) (.bool isB) (.int .u64 (m : Int)) (.slice Ab nb cb) 36)
        rw [hz1] at hrow
        clear hW1 hB1 hO1
        go_wp2_with (at_builtin; rw [HW1.out]; refine wpList_append_row _ rfl (.tmp 29) (.tmp 31) 22 rfl w.heap.size 36 infoRF Try.underlying22 rfl (by omega) (.slice A3 k c3) k _ rfl (HO1.out.alloc _) _ (some ⟨wr.heap.size + 1, 0, none⟩) 1 1 _ rfl rfl hrow.out (by intro u hu; simp at hu; rcases hu with rfl | rfl | rfl | rfl <;> rfl) (by simp only [maxLen]; omega) (by omega) (by simp; omega) ?_; intro v' w' hown' hg hat; have hbb := below_own hg (Nat.le_refl w.heap.size) (by simp; omega) (fun g h => own_ge HO1.out h (Nat.le_refl _)); have HB' := hide ((HB1.out.alloc (by omega) _).trans hbb); obtain ⟨A', c', rfl, -, -⟩ := own_form hown'; have HO' := hide hown'; clear hown' hg hat hbb)
        exact ⟨⟨k + 1, c', A', by omega, by go_num, rfl, hide (by rw [HS2.out]; exact HO'.out), HB'⟩, by simp [intOf]; omega⟩
    · obtain rfl : k = N := by omega
      by_cases h60 : k = n
      · subst h60
        go_wp2_with fail
        go_ret
        exact ⟨_, rfl, by rw [HT.out]; exact HO.out, HB.out⟩
      · have hnn := HN.out
        obtain rfl : k = 60 := by omega
        have hlt : (60 : Int) < n := by omega
        go_wp2_with fail
        go_ret
        exact ⟨_, rfl, by first | exact HO.out | (rw [← List.map_take]; exact HO.out), HB.out⟩
#print axioms few_any
end Go.Proofs.Ytjliocbdidiemaa
