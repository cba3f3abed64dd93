/-
  Rows of keyed rows, and of deletions, that came in, read by their shape.
-/
import Derived.Test.YtjedpjfmlaganaaVwShape
import Derived.Test.YtjedpjfmlaganaaVwMg
namespace Go.Proofs.Ytjedpjfmlaganaa.vw
open Go.RowKit
set_option linter.unusedVariables false

/-- A row of rows that came in. -/
def PcHas (w : World) (p : Pc) : Prop := p.l.length = p.n ∧ p.n ≤ p.c ∧ p.c ≤ maxLen ∧ Row w w.heap.size p.A (kcs p.l) ∧ ∀ x ∈ p.l, KHas w w.heap.size x ∧ KeWf x.k
def PgHas (w : World) (p : Pg) : Prop := p.l.length = p.n ∧ p.n ≤ p.c ∧ p.c ≤ maxLen ∧ Row w w.heap.size p.A (gcs p.l) ∧ ∀ x ∈ p.l, KeWf x.k
theorem zok_pcs {w : World} {v : Value} (h : (Zh.slice 1 24 (.slice 4 48 zKd)).Ok w w.heap.size [v]) : ∃ A len cap, ∃ P : List Pc, v = .slice A len cap ∧ P.length = len ∧ len ≤ cap ∧ cap ≤ maxLen ∧ (∀ p ∈ P, PcHas w p) ∧ Row w w.heap.size A (P.map fun p => Value.slice p.A p.n p.c) := by
  obtain ⟨A, len, cap, l, e, hl, hnc, hc, -, -, hp, hr⟩ := zok_slice (fun p : Pc => [.slice p.A p.n p.c]) (fun p => PcHas w p) (fun ys hy => by
    obtain ⟨y, rfl⟩ := List.length_eq_one_iff.1 (zone_slice ys hy)
    obtain ⟨A, len, cap, l, rfl, h1, h2, h3, h4, h5⟩ := zok_kds hy
    exact ⟨⟨A, len, cap, l⟩, ⟨h1, h2, h3, h5, h4⟩, rfl⟩) (fun _ => rfl) h
  rw [flatMap_one] at hr
  exact ⟨A, len, cap, l, e, hl, hnc, hc, hp, hr⟩
theorem zok_pgs {w : World} {v : Value} (h : (Zh.slice 1 24 (.slice 4 32 zGn)).Ok w w.heap.size [v]) : ∃ A len cap, ∃ P : List Pg, v = .slice A len cap ∧ P.length = len ∧ len ≤ cap ∧ cap ≤ maxLen ∧ (∀ p ∈ P, PgHas w p) ∧ Row w w.heap.size A (P.map fun p => Value.slice p.A p.n p.c) := by
  obtain ⟨A, len, cap, l, e, hl, hnc, hc, -, -, hp, hr⟩ := zok_slice (fun p : Pg => [.slice p.A p.n p.c]) (fun p => PgHas w p) (fun ys hy => by
    obtain ⟨y, rfl⟩ := List.length_eq_one_iff.1 (zone_slice ys hy)
    obtain ⟨A, len, cap, l, rfl, h1, h2, h3, h4, h5⟩ := zok_gns hy
    exact ⟨⟨A, len, cap, l⟩, ⟨h1, h2, h3, h5, h4⟩, rfl⟩) (fun _ => rfl) h
  rw [flatMap_one] at hr
  exact ⟨A, len, cap, l, e, hl, hnc, hc, hp, hr⟩
end Go.Proofs.Ytjedpjfmlaganaa.vw
