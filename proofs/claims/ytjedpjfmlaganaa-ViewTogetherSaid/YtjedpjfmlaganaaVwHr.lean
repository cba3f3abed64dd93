/-
  What a list has, by the document, walked (written by mk_vw.py).
-/
import Derived.Test.YtjedpjfmlaganaaVwH
namespace Go.Proofs.Ytjedpjfmlaganaa.vw
open Go.RowKit
set_option linter.unusedVariables false

set_option maxHeartbeats 1000000 in
theorem refhas_any (w : World) (H : Int) (A : Option Addr) (n c : Nat) (l : List Int) (x : Int) (hl : l.length = n) (hn : n ≤ 1000000000) (hr : Row w w.heap.size A (ints l)) :
    Calls Try.prog 18 #[.agg #[.int .i64 H, .slice A n c], .int .i64 x] w fun e w' => e = .returned (.bool (has H l x)) ∧ Below w.heap.size w w' := by
  have HL := hide hl
  clear hl
  go_enter Try.func18, Try.ntmps18
  go_wp2_with fail
  go_loop [5] (fun i => ∃ k : Nat, k ≤ n ∧ i = .int .i64 k ∧ Hid (x ∉ l.take k)) (fun i => n - (intOf i).toNat)
  case atStart => exact ⟨0, Nat.zero_le _, rfl, hide (by simp)⟩
  case round =>
    obtain ⟨k, hk, rfl, HP⟩ := hrel
    by_cases hkn : k < n
    · obtain ⟨y, hy⟩ : ∃ y, l[k]? = some y := ⟨_, List.getElem?_eq_getElem (by rw [HL.out]; exact hkn)⟩
      obtain ⟨bA, oA, rfl, hbA, hcA⟩ := hr.at_ (ints_at hy)
      by_cases hxy : x = y
      · subst hxy
        have HD := hide (show has H l x = false by simp [has, List.mem_of_getElem? hy])
        clear hy
        go_wp2_with fail
        go_ret
        exact ⟨ret_bool HD.out.symm, (Below.refl _ _).alloc (Nat.le_refl _) _⟩
      · have HN := hide (not_mem_step HP.out hy hxy)
        have hyx : ¬ y = x := fun h => hxy h.symm
        clear hy
        go_wp2_with fail
        exact ⟨⟨k + 1, by omega, by go_num, HN⟩, by simp [intOf]; omega⟩
    · obtain rfl : k = n := by omega
      have hno : x ∉ l := by have := HP.out; rwa [List.take_of_length_le (by rw [HL.out]; exact Nat.le_refl _)] at this
      by_cases h1 : x < 1
      · have HD := hide (show has H l x = false by simp [has, show ¬ 1 ≤ x by omega])
        clear hno
        go_wp2_with fail
        go_ret
        exact ⟨ret_bool HD.out.symm, (Below.refl _ _).alloc (Nat.le_refl _) _⟩
      · by_cases h2 : H < x
        · have HD := hide (show has H l x = false by simp [has, show ¬ x ≤ H by omega])
          clear hno
          go_wp2_with fail
          go_ret
          exact ⟨ret_bool (by rw [HD.out]; exact decide_eq_false (by omega)), (Below.refl _ _).alloc (Nat.le_refl _) _⟩
        · have HD := hide (show has H l x = true by simp [has, hno, show 1 ≤ x by omega, show x ≤ H by omega])
          clear hno
          go_wp2_with fail
          go_ret
          exact ⟨ret_bool HD.out.symm, (Below.refl _ _).alloc (Nat.le_refl _) _⟩
end Go.Proofs.Ytjedpjfmlaganaa.vw
