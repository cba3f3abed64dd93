/-
  Records that came in, read by their shape.
-/
import Derived.Test.YtocpeiocgppkfaaShape
import Derived.Test.YtocpeiocgppkfaaTxD
namespace Go.Proofs.Ytocpeiocgppkfaa
open Go.RowKit

theorem ok_ints {w : World} {B : Nat} {v : Value} (h : (Sh.slice 1 (.int .i64)).Ok w B [v]) : ∃ A len cap, ∃ l : List Int, v = .slice A len cap ∧ l.length = len ∧ len ≤ cap ∧ cap ≤ maxLen ∧ (∀ x ∈ l, (Lit.int .i64 x).wf = true) ∧ Row w B A (ints l) := by
  obtain ⟨A, len, cap, l, e, hl, hnc, hc, -, hwf, hr⟩ := ok_slice (fun x : Int => [.int .i64 x]) (fun x => (Lit.int .i64 x).wf = true) (fun ys hy => by obtain ⟨n, rfl, hn⟩ := hy; exact ⟨n, hn, rfl⟩) (fun _ => rfl) h
  rw [flatMap_one] at hr
  exact ⟨A, len, cap, l, e, hl, hnc, hc, hwf, hr⟩
theorem ok_rec {w : World} {B : Nat} {cs : List Value} (h : (Sh.pair 1 (.int .i64) (.pair 1 (.int .i64) .unit)).Ok w B cs) : ∃ op id : Int, cs = [.int .i64 op, .int .i64 id] ∧ (Lit.int .i64 op).wf = true ∧ (Lit.int .i64 id).wf = true := by
  obtain ⟨c, r, rfl, h1, h2⟩ := ok_cons h one_of_int
  obtain ⟨d, r, rfl, h3, h4⟩ := ok_cons h2 one_of_int
  obtain ⟨x, hx, wx⟩ := h1
  obtain ⟨y, hy, wy⟩ := h3
  obtain rfl : r = [] := h4
  simp only [List.cons.injEq, and_true] at hx hy
  subst hx
  subst hy
  exact ⟨x, y, rfl, wx, wy⟩
theorem ok_recs {w : World} {B : Nat} {v : Value} (h : (Sh.slice 2 (.pair 1 (.int .i64) (.pair 1 (.int .i64) .unit))).Ok w B [v]) : ∃ A len cap, ∃ l : List (Int × Int), v = .slice A len cap ∧ l.length = len ∧ len ≤ cap ∧ cap ≤ maxLen ∧ Row w B A (rcs l) := by
  obtain ⟨A, len, cap, l, e, hl, hnc, hc, -, -, hr⟩ := ok_slice (fun r : Int × Int => [.int .i64 r.1, .int .i64 r.2]) (fun _ => True) (fun ys hy => by obtain ⟨x, y, rfl, -⟩ := ok_rec hy; exact ⟨(x, y), trivial, rfl⟩) (fun _ => rfl) h
  exact ⟨A, len, cap, l, e, hl, hnc, hc, hr⟩
end Go.Proofs.Ytocpeiocgppkfaa
