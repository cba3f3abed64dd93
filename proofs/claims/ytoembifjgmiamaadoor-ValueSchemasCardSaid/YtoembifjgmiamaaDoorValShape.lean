/-
  A value that came in, read by its shape; what utf8's table holds, from the row's list; a world that holds it.
-/
import Derived.Test.YtoembifjgmiamaaDoorRows
import Derived.Test.YtoembifjgmiamaaDoorShape
import Derived.Test.YtoembifjgmiamaaDoorValC
import Derived.Deep.DeepHandedRow
import Derived.Lib.LaidTab
import Derived.Lib.LaidU8
namespace Go.Proofs.YtoembifjgmiamaaDoor
open Go.RowKit

theorem ok_val {w : World} {B : Nat} {cs : List Value} (h : (Sh.pair 1 .bool (.pair 1 (.int .i64) (.pair 1 .str .unit))).Ok w B cs) : ∃ x : va.Val, cs = [.bool x.nul, .int .i64 x.n, .string x.s] ∧ (Lit.int .i64 x.n).wf = true := by
  obtain ⟨c0, r, rfl, h1, h2⟩ := ok_cons h one_of_bool
  obtain ⟨c1, r, rfl, h3, h4⟩ := ok_cons h2 one_of_int
  obtain ⟨c2, r, rfl, h5, h6⟩ := ok_cons h4 one_of_str
  obtain ⟨b, hb⟩ := h1
  obtain ⟨n, hn, wn⟩ := h3
  obtain ⟨s, hs, -⟩ := h5
  obtain rfl : r = [] := h6
  simp only [List.cons.injEq, and_true] at hb hn hs
  subst hb
  subst hn
  subst hs
  exact ⟨⟨b, n, s⟩, rfl, wn⟩

def firstZ : List Int := Go.Pinned.utf8FirstZ.map fun (n : Nat) => (n : Int)
theorem first_data : Rows.laid_unicode_utf8_first = Lib.tabData .u8 firstZ := by
  show DataW.agg (Go.Pinned.numbers .u8 Go.Pinned.utf8FirstZ) = DataW.agg ((Go.Pinned.utf8FirstZ.map fun (n : Nat) => (n : Int)).map fun z => .lit (.int .u8 z))
  rw [List.map_map]
  rfl
theorem gFirst : Tryd.prog.globalNamed "unicode/utf8.first" = some 0 := by kernel_rfl
theorem gFirstType : (Tryd.prog.globals[0]?).map (·.type) = some 48 := by kernel_rfl
theorem cellsFirst : Tryd.prog.cellsOf 48 = 256 := by kernel_rfl
theorem cells8 : Tryd.prog.cellsOf 5 = 1 := by kernel_rfl
theorem first255 : firstZ.getD 255 0 = 241 := by decide +kernel
theorem firstLen : 255 < firstZ.length := by decide +kernel
theorem has255 {W : World} (h : laidMetH Tryd.prog [("unicode/utf8.acceptRanges", Rows.laid_unicode_utf8_acceptRanges), ("unicode/utf8.first", Rows.laid_unicode_utf8_first)] W) : Has255 W ∧ 0 < W.heap.size := by
  have h1 : laidMet Tryd.prog [("unicode/utf8.acceptRanges", Rows.laid_unicode_utf8_acceptRanges), ("unicode/utf8.first", Rows.laid_unicode_utf8_first)] W := h
  obtain ⟨g, t, cs, fuel, p, hg, ht, hvar, hd⟩ := Lib.laidMet.reads h1 (n := "unicode/utf8.first") (d := Rows.laid_unicode_utf8_first) (by simp)
  obtain rfl := Option.some.inj (gFirst.symm.trans hg)
  obtain rfl := Option.some.inj (gFirstType.symm.trans ht)
  rw [first_data] at hd
  have hcs := Lib.cells_of_tab Tryd.underlying48 Tryd.underlying5 cells8 cellsFirst hd
  have htab : Lib.TabIs Tryd.prog W "unicode/utf8.first" .u8 firstZ := by
    unfold Lib.TabIs
    rw [hvar, ← hcs]
  have hc := htab.cell gFirst 255 firstLen
  rw [first255] at hc
  exact ⟨hc, block_lt_of_cell hc⟩

def layFirst : Obj → Obj
  | .cells _ t frozen => .cells (Go.Pinned.utf8FirstZ.map fun (n : Nat) => Value.int .u8 (n : Int)).toArray t frozen
  | o => o
def layAccept : Obj → Obj
  | .cells _ t frozen => .cells (([128, 191, 160, 191, 128, 159, 144, 191, 128, 143, 0, 0, 0, 0, 0, 0, 0, 0, 0, 0, 0, 0, 0, 0, 0, 0, 0, 0, 0, 0, 0, 0] : List Nat).map fun (n : Nat) => Value.int .u8 (n : Int)).toArray t frozen
  | o => o
/-- A world that holds the two tables. -/
noncomputable def laidWorld (os : Os) : World :=
  { World.holding Tryd.prog os ⟨#[], #[], []⟩ with heap := ((World.holding Tryd.prog os ⟨#[], #[], []⟩).heap.modify 0 layFirst).modify 1 layAccept }
end Go.Proofs.YtoembifjgmiamaaDoor
