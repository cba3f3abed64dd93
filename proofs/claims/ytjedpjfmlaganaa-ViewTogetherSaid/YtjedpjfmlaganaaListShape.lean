/-
  A list that came in, read by its shape.
-/
import Derived.Test.YtjedpjfmlaganaaShape
import Derived.Test.YtjedpjfmlaganaaListA
namespace Go.Proofs.Ytjedpjfmlaganaa
open Go.RowKit

theorem ok_ints {w : World} {B : Nat} {v : Value} (h : (Sh.slice 1 (.int .i64)).Ok w B [v]) : ∃ A len cap, ∃ l : List Int, v = .slice A len cap ∧ l.length = len ∧ len ≤ cap ∧ cap ≤ maxLen ∧ (∀ x ∈ l, (Lit.int .i64 x).wf = true) ∧ Row w B A (ints l) := by
  obtain ⟨A, len, cap, l, e, hl, hnc, hc, -, hwf, hr⟩ := ok_slice (fun x : Int => [.int .i64 x]) (fun x => (Lit.int .i64 x).wf = true) (fun ys hy => by obtain ⟨n, rfl, hn⟩ := hy; exact ⟨n, hn, rfl⟩) (fun _ => rfl) h
  rw [flatMap_one] at hr
  exact ⟨A, len, cap, l, e, hl, hnc, hc, hwf, hr⟩
theorem ok_list {w : World} {B : Nat} {cs : List Value} (h : (Sh.pair 1 (.int .i64) (.pair 1 (.slice 1 (.int .i64)) .unit)).Ok w B cs) :
    ∃ (H : Int) (A : Option Addr) (len cap : Nat) (l : List Int), cs = [.int .i64 H, .slice A len cap] ∧ (Lit.int .i64 H).wf = true ∧ l.length = len ∧ len ≤ cap ∧ cap ≤ maxLen ∧ (∀ x ∈ l, (Lit.int .i64 x).wf = true) ∧ Row w B A (ints l) := by
  obtain ⟨c, r, rfl, h1, h2⟩ := ok_cons h one_of_int
  obtain ⟨d, r, rfl, h3, h4⟩ := ok_cons h2 one_of_slice
  obtain ⟨H, hH, hwf⟩ := h1
  obtain ⟨A, len, cap, l, rfl, hl, hnc, hc, hw, hr⟩ := ok_ints h3
  obtain rfl : r = [] := h4
  simp only [List.cons.injEq, and_true] at hH
  subst hH
  exact ⟨H, A, len, cap, l, rfl, hwf, hl, hnc, hc, hw, hr⟩
end Go.Proofs.Ytjedpjfmlaganaa
