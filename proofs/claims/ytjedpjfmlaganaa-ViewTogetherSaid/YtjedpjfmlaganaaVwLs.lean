/-
  The document's order of keys, walked; and what is put at its place, in plain words.
-/
import Derived.Test.YtjedpjfmlaganaaVwG
namespace Go.Proofs.Ytjedpjfmlaganaa.vw
open Go.RowKit
set_option linter.unusedVariables false

theorem ltK_if (x y : Ke) : ltK x y = if x.id ≠ y.id then decide (x.id < y.id) else if x.bk ≠ y.bk then decide (x.bk < y.bk) else decide (x.rw < y.rw) := by
  rw [Bool.eq_iff_iff, ltK_iff]
  split
  · rw [decide_eq_true_eq]; omega
  · split
    · rw [decide_eq_true_eq]; omega
    · rw [decide_eq_true_eq]; omega
set_option maxRecDepth 100000 in
theorem rless_any (w : World) (x y : Ke) : Calls Try.prog 19 #[.agg #[.int .i64 x.id, .int .i64 x.bk, .int .i64 x.rw], .agg #[.int .i64 y.id, .int .i64 y.bk, .int .i64 y.rw]] w fun e w' => e = .returned (.bool (ltK x y)) ∧ Gr w w' := by
  obtain ⟨X, hX, b1, b2, hg⟩ := kbox2 w x y 43
  have HX := hide hX
  have HG := hide hg
  have c0 := b1.cell 0 (.int .i64 x.id) rfl
  have c1 := b1.cell 1 (.int .i64 x.bk) rfl
  have c2 := b1.cell 2 (.int .i64 x.rw) rfl
  have d0 := b2.cell 0 (.int .i64 y.id) rfl
  have d1 := b2.cell 1 (.int .i64 y.bk) rfl
  have d2 := b2.cell 2 (.int .i64 y.rw) rfl
  have HR := hide (ltK_if x y)
  generalize ltK x y = b at HR ⊢
  clear hX hg b1 b2
  by_cases e0 : x.id = y.id
  · have N0 := hide (show (x.id != y.id) = false by simpa using e0)
    by_cases e1 : x.bk = y.bk
    · have N1 := hide (show (x.bk != y.bk) = false by simpa using e1)
      have HS := hide (show b = decide (x.rw < y.rw) by rw [HR.out]; simp [e0, e1])
      clear e0 e1
      go_enter Try.func19, Try.ntmps19
      go_upto_region 1 with fail
      rw [HX.out]
      have n0 := N0.out
      have n1 := N1.out
      go_wp2_with fail
      go_ret
      exact ⟨ret_bool HS.out.symm, HG.out⟩
    · have N1 := hide (show (x.bk != y.bk) = true by simpa using e1)
      have HS := hide (show b = decide (x.bk < y.bk) by rw [HR.out]; simp [e0, e1])
      clear e0 e1
      go_enter Try.func19, Try.ntmps19
      go_upto_region 1 with fail
      rw [HX.out]
      have n0 := N0.out
      have n1 := N1.out
      go_wp2_with fail
      go_ret
      exact ⟨ret_bool HS.out.symm, HG.out⟩
  · have N0 := hide (show (x.id != y.id) = true by simpa using e0)
    have HS := hide (show b = decide (x.id < y.id) by rw [HR.out]; simp [e0])
    clear e0
    go_enter Try.func19, Try.ntmps19
    go_upto_region 1 with fail
    rw [HX.out]
    have n0 := N0.out
    go_wp2_with fail
    go_ret
    exact ⟨ret_bool HS.out.symm, HG.out⟩
#print axioms rless_any

theorem putK_same {α : Type} {key : α → Ke} {x y : α} : ∀ {l : List α} {k : Nat}, l[k]? = some y → (∀ j z, j < k → l[j]? = some z → ltK (key z) (key x) = true) → eqK (key y) (key x) = true → putK key l x = l
  | [], k, h, _, _ => by simp at h
  | z :: l, 0, h, _, he => by
    simp only [List.getElem?_cons_zero, Option.some.injEq] at h
    subst h
    have hl : ltK (key z) (key x) = false := by rw [eqK_iff.1 he]; exact ltK_irrefl _
    unfold putK
    rw [hl, he]
    simp
  | z :: l, k + 1, h, hb, he => by
    have h0 := hb 0 z (by omega) rfl
    unfold putK
    rw [h0, if_pos rfl]
    rw [putK_same (k := k) (by simpa using h) (fun j u hj hu => hb (j + 1) u (by omega) (by simpa using hu)) he]
theorem putK_new {α : Type} {key : α → Ke} {x : α} : ∀ {l : List α} {k : Nat}, k ≤ l.length → (∀ j z, j < k → l[j]? = some z → ltK (key z) (key x) = true) → (∀ y, l[k]? = some y → ltK (key y) (key x) = false ∧ eqK (key y) (key x) = false) → putK key l x = l.take k ++ [x] ++ l.drop k
  | [], k, h, _, _ => by simp at h; subst h; rfl
  | z :: l, 0, h, _, he => by
    obtain ⟨h1, h2⟩ := he z rfl
    unfold putK
    rw [h1, h2]
    simp
  | z :: l, k + 1, h, hb, he => by
    have h0 := hb 0 z (by omega) rfl
    unfold putK
    rw [h0, if_pos rfl]
    rw [putK_new (k := k) (by simpa using h) (fun j u hj hu => hb (j + 1) u (by omega) (by simpa using hu)) (fun y hy => he y (by simpa using hy))]
    simp
/-- A new row of nothing. -/
theorem own_zero (w : World) (base : Nat) (hb : base ≤ w.heap.size) (e : TypeId) (size : Nat) : (w.alloc (.cells #[] e)).ownsRow base e size (.slice (some ⟨w.heap.size, 0, none⟩) 0 0) 0 [] :=
  ⟨by simp, .inr ⟨w.heap.size, 0, #[], rfl, hb, box_new w #[] e, Nat.le_refl _, by simp, by simp, by simp⟩⟩
end Go.Proofs.Ytjedpjfmlaganaa.vw
