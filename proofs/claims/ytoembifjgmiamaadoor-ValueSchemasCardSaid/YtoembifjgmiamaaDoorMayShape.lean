/-
  utf8's two tables, from the row's list; a value that came in, with its text's size.
-/
import Derived.Test.YtoembifjgmiamaaDoorValShape
import Derived.Test.YtoembifjgmiamaaDoorMayB
namespace Go.Proofs.YtoembifjgmiamaaDoor
open Go.RowKit

theorem ok_val2 {w : World} {B : Nat} {cs : List Value} (h : (Sh.pair 1 .bool (.pair 1 (.int .i64) (.pair 1 .str .unit))).Ok w B cs) : ∃ x : va.Val, cs = [.bool x.nul, .int .i64 x.n, .string x.s] ∧ (Lit.int .i64 x.n).wf = true ∧ x.s.size ≤ 9223372036854775807 := by
  obtain ⟨c0, r, rfl, h1, h2⟩ := ok_cons h one_of_bool
  obtain ⟨c1, r, rfl, h3, h4⟩ := ok_cons h2 one_of_int
  obtain ⟨c2, r, rfl, h5, h6⟩ := ok_cons h4 one_of_str
  obtain ⟨b, hb⟩ := h1
  obtain ⟨n, hn, wn⟩ := h3
  obtain ⟨s, hs, hz⟩ := h5
  obtain rfl : r = [] := h6
  simp only [List.cons.injEq, and_true] at hb hn hs
  subst hb
  subst hn
  subst hs
  exact ⟨⟨b, n, s⟩, rfl, wn, hz⟩
theorem first_is : Rows.laid_unicode_utf8_first = Lib.firstData := by kernel_rfl
theorem accept_is : Rows.laid_unicode_utf8_acceptRanges = Lib.acceptData := by kernel_rfl
theorem tabs8 {W : World} (h : laidMetH Tryd.prog [("unicode/utf8.acceptRanges", Rows.laid_unicode_utf8_acceptRanges), ("unicode/utf8.first", Rows.laid_unicode_utf8_first)] W) : Tabs8 W := by
  have h1 : laidMet Tryd.prog [("unicode/utf8.acceptRanges", Rows.laid_unicode_utf8_acceptRanges), ("unicode/utf8.first", Rows.laid_unicode_utf8_first)] W := h
  have r1 := Lib.laidMet.reads h1 (n := "unicode/utf8.first") (d := Rows.laid_unicode_utf8_first) (by simp)
  have r2 := Lib.laidMet.reads h1 (n := "unicode/utf8.acceptRanges") (d := Rows.laid_unicode_utf8_acceptRanges) (by simp)
  rw [first_is] at r1
  rw [accept_is] at r2
  have ht : Lib.Utf8Tabs 0 1 W := utf8Tabs_of_reads { lays197 with } tabsX r1 r2
  exact ⟨ht, block_lt_of_cell (ht.1 0 (by decide)), block_lt_of_cell (ht.2 0 (by decide)).1⟩
theorem tabs255 {W : World} (h : Tabs8 W) : Has255 W := (h.1.1 255 (by decide)).trans (by rw [show Lib.firstT 255 = 241 by decide]; rfl)
end Go.Proofs.YtoembifjgmiamaaDoor
