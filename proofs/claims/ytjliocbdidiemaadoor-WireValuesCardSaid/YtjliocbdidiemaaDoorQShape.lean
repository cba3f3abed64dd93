/-
  Values that came in, read by their shape; utf8's two tables, from the row's list; a world that holds them.
-/
import Derived.Test.YtjliocbdidiemaaDoorRows
import Derived.Test.YtjliocbdidiemaaDoorShape
import Derived.Test.YtjliocbdidiemaaDoorMayB
import Derived.Test.YtjliocbdidiemaaDoorQX
import Derived.Deep.DeepHandedRow
import Derived.Lib.LaidTab
import Derived.Lib.LaidU8
namespace Go.Proofs.YtjliocbdidiemaaDoor
open Go.RowKit

theorem ok_val2 {w : World} {B : Nat} {cs : List Value} (h : (Sh.pair 1 .bool (.pair 1 (.int .i64) (.pair 1 .str .unit))).Ok w B cs) : ∃ x : va.Val, cs = [.bool x.nul, .int .i64 x.n, .string x.s] ∧ (Lit.int .i64 x.n).wf = true ∧ x.s.size ≤ 9223372036854775807 := by
  obtain ⟨c0, r, rfl, h1, h2⟩ := ok_cons h one_of_bool
  obtain ⟨c1, r, rfl, h3, h4⟩ := ok_cons h2 one_of_int
  obtain ⟨c2, r, rfl, h5, h6⟩ := ok_cons h4 one_of_str
  obtain ⟨b, hb⟩ := h1
  obtain ⟨n, hn, wn⟩ := h3
  obtain ⟨s, hs, hz⟩ := h5
  obtain rfl : r = [] := h6
  simp only [List.cons.injEq, and_true] at hb hn hs
  subst hb
  subst hn
  subst hs
  exact ⟨⟨b, n, s⟩, rfl, wn, hz⟩
theorem first_is : Rows.laid_unicode_utf8_first = Lib.firstData := by kernel_rfl
theorem accept_is : Rows.laid_unicode_utf8_acceptRanges = Lib.acceptData := by kernel_rfl
theorem tabs8 {W : World} (h : laidMetH Tryd.prog [("unicode/utf8.acceptRanges", Rows.laid_unicode_utf8_acceptRanges), ("unicode/utf8.first", Rows.laid_unicode_utf8_first)] W) : Tabs8 W := by
  have h1 : laidMet Tryd.prog [("unicode/utf8.acceptRanges", Rows.laid_unicode_utf8_acceptRanges), ("unicode/utf8.first", Rows.laid_unicode_utf8_first)] W := h
  have r1 := Lib.laidMet.reads h1 (n := "unicode/utf8.first") (d := Rows.laid_unicode_utf8_first) (by simp)
  have r2 := Lib.laidMet.reads h1 (n := "unicode/utf8.acceptRanges") (d := Rows.laid_unicode_utf8_acceptRanges) (by simp)
  rw [first_is] at r1
  rw [accept_is] at r2
  have ht : Lib.Utf8Tabs 0 1 W := utf8Tabs_of_reads { lays197 with } tabsX r1 r2
  exact ⟨ht, block_lt_of_cell (ht.1 0 (by decide)), block_lt_of_cell (ht.2 0 (by decide)).1⟩
def shV : Sh := .pair 1 .bool (.pair 1 (.int .i64) (.pair 1 .str .unit))
def shSt : Sh := .pair 1 (.int .i64) (.pair 1 .bool (.pair 3 shV (.pair 3 shV (.pair 1 (.int .i64) (.pair 1 .bool .unit)))))
theorem ok_val3 {w : World} {B : Nat} {r : Sh} {cs : List Value} (h : (Sh.pair 3 shV r).Ok w B cs) : ∃ (x : va.Val) (cs' : List Value), cs = .bool x.nul :: .int .i64 x.n :: .string x.s :: cs' ∧ (Lit.int .i64 x.n).wf = true ∧ x.s.size ≤ 9223372036854775807 ∧ r.Ok w B cs' := by
  obtain ⟨h1, h2⟩ := h
  obtain ⟨x, hx, w1, w2⟩ := ok_val2 h1
  refine ⟨x, cs.drop 3, ?_, w1, w2, h2⟩
  have e := List.take_append_drop 3 cs
  rw [hx] at e
  exact e.symm
theorem ok_st {w : World} {B : Nat} {cs : List Value} (h : shSt.Ok w B cs) : ∃ x : st.St, cs = (st.cells x).toList ∧
    (Lit.int .i64 x.mn.n).wf = true ∧ (Lit.int .i64 x.mx.n).wf = true ∧ x.mn.s.size ≤ 9223372036854775807 ∧ x.mx.s.size ≤ 9223372036854775807 ∧ I64 x.sum ∧ I64 x.c := by
  obtain ⟨c0, r, rfl, g0, h0⟩ := ok_cons h one_of_int
  obtain ⟨c1, r, rfl, g1, h1⟩ := ok_cons h0 one_of_bool
  obtain ⟨mn, r, rfl, a1, a3, h2⟩ := ok_val3 h1
  obtain ⟨mx, r, rfl, a2, a4, h3⟩ := ok_val3 h2
  obtain ⟨c8, r, rfl, g8, h8⟩ := ok_cons h3 one_of_int
  obtain ⟨c9, r, rfl, g9, h9⟩ := ok_cons h8 one_of_bool
  obtain rfl : r = [] := h9
  obtain ⟨c, hc, wc⟩ := g0
  obtain ⟨hn, hb⟩ := g1
  obtain ⟨su, hs, ws⟩ := g8
  obtain ⟨ov, ho⟩ := g9
  simp only [List.cons.injEq, and_true] at hc hb hs ho
  subst hc
  subst hb
  subst hs
  subst ho
  exact ⟨⟨c, hn, mn, mx, su, ov⟩, rfl, a1, a2, a3, a4, bounds_i64 ws, bounds_i64 wc⟩
def layFirst : Obj → Obj
  | .cells _ t frozen => .cells (Go.Pinned.utf8FirstZ.map fun (n : Nat) => Value.int .u8 (n : Int)).toArray t frozen
  | o => o
def layAccept : Obj → Obj
  | .cells _ t frozen => .cells (([128, 191, 160, 191, 128, 159, 144, 191, 128, 143, 0, 0, 0, 0, 0, 0, 0, 0, 0, 0, 0, 0, 0, 0, 0, 0, 0, 0, 0, 0, 0, 0] : List Nat).map fun (n : Nat) => Value.int .u8 (n : Int)).toArray t frozen
  | o => o
/-- A world that holds the two tables. -/
noncomputable def laidWorld (os : Os) : World :=
  { World.holding Tryd.prog os ⟨#[], #[], []⟩ with heap := ((World.holding Tryd.prog os ⟨#[], #[], []⟩).heap.modify 0 layFirst).modify 1 layAccept }
end Go.Proofs.YtjliocbdidiemaaDoor
