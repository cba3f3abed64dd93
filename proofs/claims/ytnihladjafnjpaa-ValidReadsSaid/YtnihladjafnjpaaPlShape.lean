/-
  Directories that came in, read by their shape.
-/
import Derived.Test.YtnihladjafnjpaaListShape
import Derived.Test.YtnihladjafnjpaaPlA
namespace Go.Proofs.Ytnihladjafnjpaa
open Go.RowKit

theorem ok_dir {w : World} {B : Nat} {cs : List Value} (h : (Sh.pair 1 (.int .i64) (.pair 1 (.int .i64) (.pair 1 (.int .i64) .unit))).Ok w B cs) : ∃ d : dr.Dr, cs = [.int .i64 d.k, .int .i64 d.f, .int .i64 d.t] := by
  obtain ⟨c, r, rfl, h1, h2⟩ := ok_cons h one_of_int
  obtain ⟨d, r, rfl, h3, h4⟩ := ok_cons h2 one_of_int
  obtain ⟨e, r, rfl, h5, h6⟩ := ok_cons h4 one_of_int
  obtain ⟨x, hx, wx⟩ := h1
  obtain ⟨y, hy, wy⟩ := h3
  obtain ⟨z, hz, wz⟩ := h5
  obtain rfl : r = [] := h6
  simp only [List.cons.injEq, and_true] at hx hy hz
  subst hx
  subst hy
  subst hz
  exact ⟨⟨x, y, z⟩, rfl⟩
theorem ok_dirs {w : World} {B : Nat} {v : Value} (h : (Sh.slice 3 (.pair 1 (.int .i64) (.pair 1 (.int .i64) (.pair 1 (.int .i64) .unit)))).Ok w B [v]) : ∃ A len cap, ∃ l : List dr.Dr, v = .slice A len cap ∧ l.length = len ∧ len ≤ cap ∧ cap ≤ maxLen ∧ Row w B A (dcs l) := by
  obtain ⟨A, len, cap, l, e, hl, hnc, hc, -, -, hr⟩ := ok_slice (fun d : dr.Dr => [.int .i64 d.k, .int .i64 d.f, .int .i64 d.t]) (fun _ => True) (fun ys hy => by obtain ⟨d, rfl⟩ := ok_dir hy; exact ⟨d, trivial, rfl⟩) (fun _ => rfl) h
  exact ⟨A, len, cap, l, e, hl, hnc, hc, hr⟩
end Go.Proofs.Ytnihladjafnjpaa
