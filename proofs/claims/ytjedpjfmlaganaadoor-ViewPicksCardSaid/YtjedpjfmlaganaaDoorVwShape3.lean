/-
  Columns, nodes, keyed rows and an ask that came in, read by their shape; utf8's two tables, from the row's list (written by mk_vwx.py).
-/
import Derived.Test.YtjedpjfmlaganaaDoorRows
import Derived.Test.YtjedpjfmlaganaaDoorShape
import Derived.Test.YtjedpjfmlaganaaDoorMayB
import Derived.Test.YtjedpjfmlaganaaDoorPrI
import Derived.Test.YtjedpjfmlaganaaDoorVwO
import Derived.Deep.DeepHandedRow
import Derived.Lib.LaidTab
import Derived.Lib.LaidU8
namespace Go.Proofs.YtjedpjfmlaganaaDoor
open Go.RowKit

theorem ok_val2 {w : World} {B : Nat} {cs : List Value} (h : (Sh.pair 1 .bool (.pair 1 (.int .i64) (.pair 1 .str .unit))).Ok w B cs) : ∃ x : va.Val, cs = [.bool x.nul, .int .i64 x.n, .string x.s] ∧ (Lit.int .i64 x.n).wf = true ∧ x.s.size ≤ 9223372036854775807 := by
  obtain ⟨c0, r, rfl, h1, h2⟩ := ok_cons h one_of_bool
  obtain ⟨c1, r, rfl, h3, h4⟩ := ok_cons h2 one_of_int
  obtain ⟨c2, r, rfl, h5, h6⟩ := ok_cons h4 one_of_str
  obtain ⟨b, hb⟩ := h1
  obtain ⟨n, hn, wn⟩ := h3
  obtain ⟨s, hs, hz⟩ := h5
  obtain rfl : r = [] := h6
  simp only [List.cons.injEq, and_true] at hb hn hs
  subst hb
  subst hn
  subst hs
  exact ⟨⟨b, n, s⟩, rfl, wn, hz⟩
theorem first_is : Rows.laid_unicode_utf8_first = Lib.firstData := by kernel_rfl
theorem accept_is : Rows.laid_unicode_utf8_acceptRanges = Lib.acceptData := by kernel_rfl
theorem tabs8 {W : World} (h : laidMetH Tryd.prog [("unicode/utf8.acceptRanges", Rows.laid_unicode_utf8_acceptRanges), ("unicode/utf8.first", Rows.laid_unicode_utf8_first)] W) : Tabs8 W := by
  have h1 : laidMet Tryd.prog [("unicode/utf8.acceptRanges", Rows.laid_unicode_utf8_acceptRanges), ("unicode/utf8.first", Rows.laid_unicode_utf8_first)] W := h
  have r1 := Lib.laidMet.reads h1 (n := "unicode/utf8.first") (d := Rows.laid_unicode_utf8_first) (by simp)
  have r2 := Lib.laidMet.reads h1 (n := "unicode/utf8.acceptRanges") (d := Rows.laid_unicode_utf8_acceptRanges) (by simp)
  rw [first_is] at r1
  rw [accept_is] at r2
  have ht : Lib.Utf8Tabs 0 1 W := utf8Tabs_of_reads { lays197 with } tabsX r1 r2
  exact ⟨ht, block_lt_of_cell (ht.1 0 (by decide)), block_lt_of_cell (ht.2 0 (by decide)).1⟩
def layFirst : Obj → Obj
  | .cells _ t frozen => .cells (Go.Pinned.utf8FirstZ.map fun (n : Nat) => Value.int .u8 (n : Int)).toArray t frozen
  | o => o
def layAccept : Obj → Obj
  | .cells _ t frozen => .cells (([128, 191, 160, 191, 128, 159, 144, 191, 128, 143, 0, 0, 0, 0, 0, 0, 0, 0, 0, 0, 0, 0, 0, 0, 0, 0, 0, 0, 0, 0, 0, 0] : List Nat).map fun (n : Nat) => Value.int .u8 (n : Int)).toArray t frozen
  | o => o
/-- A world that holds the two tables. -/
noncomputable def laidWorld (os : Os) : World :=
  { World.holding Tryd.prog os ⟨#[], #[], []⟩ with heap := ((World.holding Tryd.prog os ⟨#[], #[], []⟩).heap.modify 0 layFirst).modify 1 layAccept }

def shV : Sh := .pair 1 .bool (.pair 1 (.int .i64) (.pair 1 .str .unit))
theorem ok_vals_w {w : World} {B : Nat} {v : Value} (h : (Sh.slice 3 shV).Ok w B [v]) : ∃ A len cap, ∃ l : List va.Val, v = .slice A len cap ∧ l.length = len ∧ len ≤ cap ∧ cap ≤ maxLen ∧ (∀ v ∈ l, (Lit.int .i64 v.n).wf = true ∧ v.s.size ≤ 9223372036854775807) ∧ Row w B A (vcs l) := by
  obtain ⟨A, len, cap, l, e, hl, hnc, hc, -, hp, hr⟩ := ok_slice (fun v : va.Val => [.bool v.nul, .int .i64 v.n, .string v.s]) (fun v => (Lit.int .i64 v.n).wf = true ∧ v.s.size ≤ 9223372036854775807) (fun ys hy => by
    obtain ⟨x, rfl, wx, sx⟩ := ok_val2 hy
    exact ⟨x, ⟨wx, sx⟩, rfl⟩) (fun _ => rfl) h
  exact ⟨A, len, cap, l, e, hl, hnc, hc, hp, hr⟩
theorem ok_ints_w {w : World} {B : Nat} {v : Value} (h : (Sh.slice 1 (.int .i64)).Ok w B [v]) : ∃ A len cap, ∃ l : List Int, v = .slice A len cap ∧ l.length = len ∧ len ≤ cap ∧ cap ≤ maxLen ∧ Row w B A (l.map (Value.int .i64)) := by
  obtain ⟨A, len, cap, l, e, hl, hnc, hc, -, hp, hr⟩ := ok_slice (fun x : Int => [.int .i64 x]) (fun x => (Lit.int .i64 x).wf = true) (fun ys hy => by obtain ⟨n, rfl, hn⟩ := hy; exact ⟨n, hn, rfl⟩) (fun _ => rfl) h
  refine ⟨A, len, cap, l, e, hl, hnc, hc, ?_⟩
  have e2 : (l.flatMap fun x : Int => [Value.int .i64 x]) = l.map (Value.int .i64) := by
    clear e hl hp hr
    induction l with
    | nil => rfl
    | cons a l ih => simp [List.flatMap_cons, ih]
  rw [← e2]
  exact hr
theorem ok_col {w : World} {B : Nat} {cs : List Value} (h : (Sh.pair 1 .str (.pair 1 (.int .i64) .unit)).Ok w B cs) : ∃ x : va.Col, cs = [.string x.name, .int .i64 x.kind] ∧ x.name.size ≤ maxLen := by
  obtain ⟨c0, r, rfl, h1, h2⟩ := ok_cons h one_of_str
  obtain ⟨c1, r, rfl, h3, h4⟩ := ok_cons h2 one_of_int
  obtain ⟨s, hs, hz⟩ := h1
  obtain ⟨n, hn, wn⟩ := h3
  obtain rfl : r = [] := h4
  simp only [List.cons.injEq, and_true] at hn hs
  subst hn
  subst hs
  exact ⟨⟨s, n⟩, rfl, hz⟩
theorem ok_cols {w : World} {B : Nat} {v : Value} (h : (Sh.slice 2 (.pair 1 .str (.pair 1 (.int .i64) .unit))).Ok w B [v]) : ∃ A len cap, ∃ l : List va.Col, v = .slice A len cap ∧ l.length = len ∧ len ≤ cap ∧ cap ≤ maxLen ∧ (∀ c ∈ l, c.name.size ≤ maxLen) ∧ Row w B A (ccs l) := by
  obtain ⟨A, len, cap, l, e, hl, hnc, hc, -, hp, hr⟩ := ok_slice (fun v : va.Col => [.string v.name, .int .i64 v.kind]) (fun v => v.name.size ≤ maxLen) (fun ys hy => by
    obtain ⟨x, rfl, sx⟩ := ok_col hy
    exact ⟨x, sx, rfl⟩) (fun _ => rfl) h
  exact ⟨A, len, cap, l, e, hl, hnc, hc, hp, hr⟩
def shNd : Sh := .pair 1 (.int .i64) (.pair 1 (.int .i64) (.pair 3 shV (.pair 1 (.slice 3 shV) (.pair 1 (.slice 1 (.int .i64)) .unit))))
theorem slice_len {n : Nat} {e : Sh} {w : World} {B : Nat} {cs : List Value} (h : (Sh.slice n e).Ok w B cs) : cs.length = 1 := by
  obtain ⟨A, len, cap, rfl, -⟩ := h
  rfl
/-- More of a node that came in: its numbers. -/
def Wf (n : pr.Nd) : Prop := (Lit.int .i64 n.v.n).wf = true ∧ ∀ v ∈ n.vals, (Lit.int .i64 v.n).wf = true
theorem ok_nd {w : World} {B : Nat} {cs : List Value} (h : shNd.Ok w B cs) : ∃ x : pr.Nd, (Has w B x ∧ Wf x) ∧ cs = x.cells.toList := by
  obtain ⟨c0, r, rfl, g0, h0⟩ := ok_cons h one_of_int
  obtain ⟨c1, r, rfl, g1, h1⟩ := ok_cons h0 one_of_int
  obtain ⟨h2a, h2b⟩ := h1
  obtain ⟨v, hv, wv, sv⟩ := ok_val2 h2a
  have er := List.take_append_drop 3 r
  rw [hv] at er
  obtain ⟨c5, r2, e5, g5, h5⟩ := ok_cons h2b one_of_slice
  obtain ⟨c6, r3, rfl, g6, h6⟩ := ok_cons h5 one_of_slice
  obtain rfl : r3 = [] := h6
  obtain ⟨A, len, cap, vals, e1, hl1, hnc1, hc1, hp1, hr1⟩ := ok_vals_w g5
  obtain ⟨A2, len2, cap2, L, e2, hl2, hnc2, hc2, hr2⟩ := ok_ints_w g6
  obtain ⟨a, ha, -⟩ := g0
  obtain ⟨b, hb, -⟩ := g1
  simp only [List.cons.injEq, and_true] at ha hb
  subst ha
  subst hb
  subst e1
  subst e2
  have hm : (maxLen : Nat) ≤ 9223372036854775807 := by unfold maxLen; omega
  refine ⟨⟨a, b, v, A, len, cap, vals, A2, len2, cap2, L⟩, ⟨⟨hl1, Nat.le_trans (Nat.le_trans hnc1 hc1) hm, hr1, hl2, Nat.le_trans (Nat.le_trans hnc2 hc2) hm, hr2, sv, fun v hv => (hp1 v hv).2, hnc2⟩, wv, fun v hv => (hp1 v hv).1⟩, ?_⟩
  rw [e5] at er
  rw [← er]
  rfl
theorem ok_nodes {w : World} {B : Nat} {v : Value} (h : (Sh.slice 7 shNd).Ok w B [v]) : ∃ A len cap, ∃ l : List pr.Nd, v = .slice A len cap ∧ l.length = len ∧ len ≤ cap ∧ cap ≤ maxLen ∧ (∀ n ∈ l, Has w B n ∧ Wf n) ∧ Row w B A (ncs l) := by
  obtain ⟨A, len, cap, l, e, hl, hnc, hc, -, hp, hr⟩ := ok_slice (fun n : pr.Nd => n.cells.toList) (fun n => Has w B n ∧ Wf n) (fun ys hy => ok_nd hy) (fun _ => rfl) h
  exact ⟨A, len, cap, l, e, hl, hnc, hc, hp, hr⟩
/-- A keyed row that came in: its values, and where they lie. -/
def RIn (w : World) (B : Nat) (x : vw.Kd) : Prop := x.vals.length = x.n ∧ x.n ≤ 9223372036854775807 ∧ Row w B x.A (vcs x.vals) ∧ ∀ v ∈ x.vals, v.s.size ≤ 9223372036854775807
def shKe : Sh := .pair 1 (.int .i64) (.pair 1 (.int .i64) (.pair 1 (.int .i64) .unit))
def shKd : Sh := .pair 3 shKe (.pair 1 (.slice 3 shV) .unit)
theorem ok_key {w : World} {B : Nat} {cs : List Value} (h : shKe.Ok w B cs) : ∃ k : vw.Ke, cs = [.int .i64 k.id, .int .i64 k.bk, .int .i64 k.rw] := by
  obtain ⟨c0, r, rfl, h1, h2⟩ := ok_cons h one_of_int
  obtain ⟨c1, r, rfl, h3, h4⟩ := ok_cons h2 one_of_int
  obtain ⟨c2, r, rfl, h5, h6⟩ := ok_cons h4 one_of_int
  obtain ⟨a, ha, -⟩ := h1
  obtain ⟨b, hb, -⟩ := h3
  obtain ⟨c, hc, -⟩ := h5
  obtain rfl : r = [] := h6
  simp only [List.cons.injEq, and_true] at ha hb hc
  subst ha
  subst hb
  subst hc
  exact ⟨⟨a, b, c⟩, rfl⟩
theorem ok_kd {w : World} {B : Nat} {cs : List Value} (h : shKd.Ok w B cs) : ∃ x : vw.Kd, RIn w B x ∧ cs = [.int .i64 x.k.id, .int .i64 x.k.bk, .int .i64 x.k.rw, .slice x.A x.n x.c] := by
  obtain ⟨h0, h1⟩ := h
  obtain ⟨k, hk⟩ := ok_key h0
  obtain ⟨c, r, er, h2, h3⟩ := ok_cons h1 one_of_slice
  obtain rfl : r = [] := h3
  obtain ⟨A, len, cap, l, rfl, hl, hnc, hc, hp, hr⟩ := ok_vals_w h2
  have hm : (maxLen : Nat) ≤ 9223372036854775807 := by unfold maxLen; omega
  refine ⟨⟨k, A, len, cap, l⟩, ⟨hl, Nat.le_trans (Nat.le_trans hnc hc) hm, hr, fun v hv => (hp v hv).2⟩, ?_⟩
  have e := List.take_append_drop 3 cs
  rw [hk, er] at e
  exact e.symm
theorem ok_kds {w : World} {B : Nat} {v : Value} (h : (Sh.slice 4 shKd).Ok w B [v]) : ∃ A len cap, ∃ l : List vw.Kd, v = .slice A len cap ∧ l.length = len ∧ len ≤ cap ∧ cap ≤ maxLen ∧ (∀ x ∈ l, RIn w B x) ∧ Row w B A (vw.kcs l) := by
  obtain ⟨A, len, cap, l, e, hl, hnc, hc, -, hp, hr⟩ := ok_slice (fun x : vw.Kd => [.int .i64 x.k.id, .int .i64 x.k.bk, .int .i64 x.k.rw, .slice x.A x.n x.c]) (fun x => RIn w B x) (fun ys hy => ok_kd hy) (fun _ => rfl) h
  exact ⟨A, len, cap, l, e, hl, hnc, hc, hp, hr⟩
def shAsk : Sh := .pair 1 (.slice 1 (.int .i64)) (.pair 1 (.slice 7 shNd) .unit)
theorem ok_ask {w : World} {B : Nat} {cs : List Value} (h : shAsk.Ok w B cs) : ∃ A n c, ∃ L : List Int, ∃ A2 n2 c2, ∃ p : List pr.Nd, cs = [.slice A n c, .slice A2 n2 c2] ∧ (L.length = n ∧ n ≤ c ∧ c ≤ maxLen ∧ Row w B A (L.map (Value.int .i64))) ∧ (p.length = n2 ∧ n2 ≤ c2 ∧ c2 ≤ maxLen ∧ (∀ n ∈ p, Has w B n ∧ Wf n) ∧ Row w B A2 (ncs p)) := by
  obtain ⟨c0, r, rfl, h1, h2⟩ := ok_cons h one_of_slice
  obtain ⟨c1, r, rfl, h3, h4⟩ := ok_cons h2 one_of_slice
  obtain rfl : r = [] := h4
  obtain ⟨A, n, c, L, rfl, hl, hnc, hc, hr⟩ := ok_ints_w h1
  obtain ⟨A2, n2, c2, p, rfl, hl2, hnc2, hc2, hp2, hr2⟩ := ok_nodes h3
  exact ⟨A, n, c, L, A2, n2, c2, p, rfl, ⟨hl, hnc, hc, hr⟩, hl2, hnc2, hc2, hp2, hr2⟩
end Go.Proofs.YtjedpjfmlaganaaDoor
