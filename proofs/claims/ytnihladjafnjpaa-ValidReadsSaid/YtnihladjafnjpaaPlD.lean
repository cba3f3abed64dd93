/-
  Directories, walked: those of which something does not hold, in place, with a closure (written by mk_pld.py).
-/
import Derived.Test.YtnihladjafnjpaaPlC
import Derived.Laws.IdiomCopy
import Derived.Lib.SliceRun
import Derived.Lib.LazyBuf
import Derived.Deep.MidRow
namespace Go.Proofs.Ytnihladjafnjpaa
open Go.RowKit
set_option linter.unusedVariables false

theorem own_cut {w : World} {base size n c g i : Nat} {e : TypeId} {xs : List Value} (h : w.ownsRow base e size (.slice (some ⟨g, 0, none⟩) n c) n xs) (hi : i ≤ n) : w.ownsRow base e size (.slice (some ⟨g, 0, none⟩) i c) i (xs.take (i * size)) := by
  obtain ⟨h1, h2⟩ := h
  have hle : i * size ≤ n * size := Nat.mul_le_mul_right _ hi
  refine ⟨by rw [List.length_take, h1]; omega, ?_⟩
  rcases h2 with ⟨hv, -⟩ | ⟨g', cap, cur, hv, a1, a2, a3, a4, a5, a6⟩
  · cases hv
  · simp only [Value.slice.injEq, Option.some.injEq, Addr.mk.injEq, and_true, true_and] at hv
    obtain ⟨rfl, rfl⟩ := hv
    refine .inr ⟨g, c, cur, rfl, a1, a2, by omega, a4, a5, ?_⟩
    rw [← a6, List.take_take, Nat.min_eq_left hle]
theorem own_setCells {base size n c g : Nat} {e : TypeId} : ∀ (zs : List Value) (o : Nat) (w : World) (xs : List Value), w.ownsRow base e size (.slice (some ⟨g, 0, none⟩) n c) n xs →
    ∃ ys, (w.setCells g o zs).ownsRow base e size (.slice (some ⟨g, 0, none⟩) n c) n ys ∧ ys.take o = xs.take o
  | [], o, w, xs, h => ⟨xs, h, rfl⟩
  | z :: zs, o, w, xs, h => by
    obtain ⟨ys, h1, h2⟩ := own_setCells zs (o + 1) (w.setCell ⟨g, o, none⟩ z) (xs.set o z) (h.stored o z).1
    refine ⟨ys, h1, ?_⟩
    have := congrArg (List.take o) h2
    rw [List.take_take, List.take_take, Nat.min_eq_left (by omega)] at this
    rw [this, List.take_set_of_le (Nat.le_refl _)]
theorem below_setCells' {B b : Nat} {a : World} (hb : B ≤ b) : ∀ (vs : List Value) (o : Nat) (w : World), Below B a w → Below B a (w.setCells b o vs)
  | [], _, _, h => h
  | v :: vs, o, w, h => below_setCells' hb vs (o + 1) _ (h.setCell hb v)
theorem zero_dirs (k : Nat) : ∀ u ∈ (Builtin.zeroCells #[Value.int .i64 0, .int .i64 0, .int .i64 0] k).toList, u.oneCell' = true := by
  intro u hu
  simp [Builtin.zeroCells] at hu
  obtain ⟨i, -, rfl⟩ := hu
  have : i % 3 = 0 ∨ i % 3 = 1 ∨ i % 3 = 2 := by omega
  rcases this with h | h | h <;> simp [h, Value.oneCell']
end Go.Proofs.Ytnihladjafnjpaa
