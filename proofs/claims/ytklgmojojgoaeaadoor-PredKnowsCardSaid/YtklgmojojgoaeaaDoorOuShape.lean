/-
  What is known, as it came in, read by its shape.
-/
import Derived.Test.YtklgmojojgoaeaaDoorPrShape
import Derived.Test.YtklgmojojgoaeaaDoorOuD
namespace Go.Proofs.YtklgmojojgoaeaaDoor
open Go.RowKit

def shSt : Sh := .pair 1 (.int .i64) (.pair 1 .bool (.pair 3 shV (.pair 3 shV (.pair 1 (.int .i64) (.pair 1 .bool .unit)))))
theorem ok_val3 {w : World} {B : Nat} {r : Sh} {cs : List Value} (h : (Sh.pair 3 shV r).Ok w B cs) : ∃ (x : va.Val) (cs' : List Value), cs = .bool x.nul :: .int .i64 x.n :: .string x.s :: cs' ∧ (Lit.int .i64 x.n).wf = true ∧ x.s.size ≤ 9223372036854775807 ∧ r.Ok w B cs' := by
  obtain ⟨h1, h2⟩ := h
  obtain ⟨x, hx, w1, w2⟩ := ok_val2 h1
  refine ⟨x, cs.drop 3, ?_, w1, w2, h2⟩
  have e := List.take_append_drop 3 cs
  rw [hx] at e
  exact e.symm
theorem ok_st {w : World} {B : Nat} {cs : List Value} (h : shSt.Ok w B cs) : ∃ x : st.St, cs = (st.cells x).toList ∧ x.mn.s.size ≤ 9223372036854775807 ∧ x.mx.s.size ≤ 9223372036854775807 := by
  obtain ⟨c0, r, rfl, g0, h0⟩ := ok_cons h one_of_int
  obtain ⟨c1, r, rfl, g1, h1⟩ := ok_cons h0 one_of_bool
  obtain ⟨mn, r, rfl, a1, a3, h2⟩ := ok_val3 h1
  obtain ⟨mx, r, rfl, a2, a4, h3⟩ := ok_val3 h2
  obtain ⟨c8, r, rfl, g8, h8⟩ := ok_cons h3 one_of_int
  obtain ⟨c9, r, rfl, g9, h9⟩ := ok_cons h8 one_of_bool
  obtain rfl : r = [] := h9
  obtain ⟨c, hc, -⟩ := g0
  obtain ⟨hn, hb⟩ := g1
  obtain ⟨su, hs, ws⟩ := g8
  obtain ⟨ov, ho⟩ := g9
  simp only [List.cons.injEq, and_true] at hc hb hs ho
  subst hc
  subst hb
  subst hs
  subst ho
  exact ⟨⟨c, hn, mn, mx, su, ov⟩, rfl, a3, a4⟩
theorem ok_sts {w : World} {B : Nat} {v : Value} (h : (Sh.slice 10 shSt).Ok w B [v]) : ∃ A len cap, ∃ l : List st.St, v = .slice A len cap ∧ l.length = len ∧ len ≤ cap ∧ cap ≤ maxLen ∧ (∀ s ∈ l, s.mn.s.size ≤ 9223372036854775807 ∧ s.mx.s.size ≤ 9223372036854775807) ∧ Row w B A (scs l) := by
  obtain ⟨A, len, cap, l, e, hl, hnc, hc, -, hp, hr⟩ := ok_slice (fun s : st.St => (st.cells s).toList) (fun s => s.mn.s.size ≤ 9223372036854775807 ∧ s.mx.s.size ≤ 9223372036854775807) (fun ys hy => by
    obtain ⟨x, rfl, s1, s2⟩ := ok_st hy
    exact ⟨x, ⟨s1, s2⟩, rfl⟩) (fun _ => rfl) h
  exact ⟨A, len, cap, l, e, hl, hnc, hc, hp, hr⟩
end Go.Proofs.YtklgmojojgoaeaaDoor
