/-
  Columns and values that came in, read by their shape.
-/
import Derived.Test.YtoembifjgmiamaaDoorMayShape
import Derived.Test.YtoembifjgmiamaaDoorRowV
namespace Go.Proofs.YtoembifjgmiamaaDoor
open Go.RowKit

theorem ok_vals_w {w : World} {B : Nat} {v : Value} (h : (Sh.slice 3 (.pair 1 .bool (.pair 1 (.int .i64) (.pair 1 .str .unit)))).Ok w B [v]) : ∃ A len cap, ∃ l : List va.Val, v = .slice A len cap ∧ l.length = len ∧ len ≤ cap ∧ cap ≤ maxLen ∧ (∀ v ∈ l, (Lit.int .i64 v.n).wf = true ∧ v.s.size ≤ 9223372036854775807) ∧ Row w B A (vcs l) := by
  obtain ⟨A, len, cap, l, e, hl, hnc, hc, -, hp, hr⟩ := ok_slice (fun v : va.Val => [.bool v.nul, .int .i64 v.n, .string v.s]) (fun v => (Lit.int .i64 v.n).wf = true ∧ v.s.size ≤ 9223372036854775807) (fun ys hy => by
    obtain ⟨x, rfl, wx, sx⟩ := ok_val2 hy
    exact ⟨x, ⟨wx, sx⟩, rfl⟩) (fun _ => rfl) h
  exact ⟨A, len, cap, l, e, hl, hnc, hc, hp, hr⟩
theorem ok_col {w : World} {B : Nat} {cs : List Value} (h : (Sh.pair 1 .str (.pair 1 (.int .i64) .unit)).Ok w B cs) : ∃ x : va.Col, cs = [.string x.name, .int .i64 x.kind] ∧ x.name.size ≤ maxLen := by
  obtain ⟨c0, r, rfl, h1, h2⟩ := ok_cons h one_of_str
  obtain ⟨c1, r, rfl, h3, h4⟩ := ok_cons h2 one_of_int
  obtain ⟨s, hs, hz⟩ := h1
  obtain ⟨n, hn, wn⟩ := h3
  obtain rfl : r = [] := h4
  simp only [List.cons.injEq, and_true] at hn hs
  subst hn
  subst hs
  exact ⟨⟨s, n⟩, rfl, hz⟩
theorem ok_cols {w : World} {B : Nat} {v : Value} (h : (Sh.slice 2 (.pair 1 .str (.pair 1 (.int .i64) .unit))).Ok w B [v]) : ∃ A len cap, ∃ l : List va.Col, v = .slice A len cap ∧ l.length = len ∧ len ≤ cap ∧ cap ≤ maxLen ∧ (∀ c ∈ l, c.name.size ≤ maxLen) ∧ Row w B A (ccs l) := by
  obtain ⟨A, len, cap, l, e, hl, hnc, hc, -, hp, hr⟩ := ok_slice (fun v : va.Col => [.string v.name, .int .i64 v.kind]) (fun v => v.name.size ≤ maxLen) (fun ys hy => by
    obtain ⟨x, rfl, sx⟩ := ok_col hy
    exact ⟨x, sx, rfl⟩) (fun _ => rfl) h
  exact ⟨A, len, cap, l, e, hl, hnc, hc, hp, hr⟩
end Go.Proofs.YtoembifjgmiamaaDoor
