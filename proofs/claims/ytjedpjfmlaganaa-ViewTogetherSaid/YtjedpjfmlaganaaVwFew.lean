/-
  At most 60 rows, at most 60 gone, a list with at most 30 exceptions, walked.
-/
import Derived.Test.YtjedpjfmlaganaaVwO
namespace Go.Proofs.Ytjedpjfmlaganaa.vw
open Go.RowKit
set_option linter.unusedVariables false

theorem few_any (w : World) (A : Option Addr) (n c : Nat) (hnc : n ≤ c) (hc : c ≤ maxLen) :
    Calls Try.prog 8 #[.slice A n c] w fun e w' => e = .returned (.slice A (min n 60) c) ∧ w = w' := by
  unfold maxLen at hc
  by_cases h : 60 < n
  · rw [Nat.min_eq_right (by omega)]
    go_enter Try.func8, Try.ntmps8
    go_wp2_with fail
    go_ret
    exact ⟨rfl, rfl⟩
  · rw [Nat.min_eq_left (by omega)]
    go_enter Try.func8, Try.ntmps8
    go_wp2_with fail
    go_ret
    exact ⟨rfl, rfl⟩
theorem less_any (w : World) (A : Option Addr) (n c : Nat) (hnc : n ≤ c) (hc : c ≤ maxLen) :
    Calls Try.prog 9 #[.slice A n c] w fun e w' => e = .returned (.slice A (min n 60) c) ∧ w = w' := by
  unfold maxLen at hc
  by_cases h : 60 < n
  · rw [Nat.min_eq_right (by omega)]
    go_enter Try.func9, Try.ntmps9
    go_wp2_with fail
    go_ret
    exact ⟨rfl, rfl⟩
  · rw [Nat.min_eq_left (by omega)]
    go_enter Try.func9, Try.ntmps9
    go_wp2_with fail
    go_ret
    exact ⟨rfl, rfl⟩
theorem short_any (w : World) (H : Int) (A : Option Addr) (n c : Nat) (hnc : n ≤ c) (hc : c ≤ maxLen) :
    Calls Try.prog 16 #[.agg #[.int .i64 H, .slice A n c]] w fun e w' => e = .returned (.agg #[.int .i64 H, .slice A (min n 30) c]) ∧ Below w.heap.size w w' := by
  unfold maxLen at hc
  by_cases h : 30 < n
  · rw [Nat.min_eq_right (by omega)]
    go_enter Try.func16, Try.ntmps16
    go_wp2_with fail
    obtain ⟨W, hW, -, hbox1, hb, -⟩ := two_boxes w #[.int .i64 H, .slice A 30 c] #[.int .i64 H, .slice A 30 c] 38
    rw [hW]
    exact bodyPost_ret (box_results rfl _ hbox1 rfl Try.underlying38 rfl rfl) rfl ⟨rfl, hb⟩
  · rw [Nat.min_eq_left (by omega)]
    go_enter Try.func16, Try.ntmps16
    go_wp2_with fail
    obtain ⟨W, hW, -, hbox1, hb, -⟩ := two_boxes w #[.int .i64 H, .slice A n c] #[.int .i64 H, .slice A n c] 38
    rw [hW]
    exact bodyPost_ret (box_results rfl _ hbox1 rfl Try.underlying38 rfl rfl) rfl ⟨rfl, hb⟩
#print axioms short_any
end Go.Proofs.Ytjedpjfmlaganaa.vw
