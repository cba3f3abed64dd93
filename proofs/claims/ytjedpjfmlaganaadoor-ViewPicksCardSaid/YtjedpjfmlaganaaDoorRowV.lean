/-
  Values and columns, as cells.
-/
import Derived.Test.YtjedpjfmlaganaaDoorMem
import Derived.Test.YtjedpjfmlaganaaDoorSchMath
namespace Go.Proofs.YtjedpjfmlaganaaDoor
open Go.RowKit
set_option linter.unusedVariables false

/-- Values, as cells. -/
def vcs (l : List va.Val) : List Value := l.flatMap fun v => [.bool v.nul, .int .i64 v.n, .string v.s]
theorem vcs_cons (v : va.Val) (l : List va.Val) : vcs (v :: l) = .bool v.nul :: .int .i64 v.n :: .string v.s :: vcs l := rfl
theorem vcs_at : ∀ {l : List va.Val} {k : Nat} {v : va.Val}, l[k]? = some v → (vcs l)[k * 3]? = some (.bool v.nul) ∧ (vcs l)[k * 3 + 1]? = some (.int .i64 v.n) ∧ (vcs l)[k * 3 + 2]? = some (.string v.s)
  | [], k, v, h => by simp at h
  | u :: l, 0, v, h => by simp at h; subst h; exact ⟨rfl, rfl, rfl⟩
  | u :: l, k + 1, v, h => by
    rw [vcs_cons, show (k + 1) * 3 = k * 3 + 1 + 1 + 1 by omega]
    simp only [List.getElem?_cons_succ] at h ⊢
    exact vcs_at h
theorem vcs_append (l m : List va.Val) : vcs (l ++ m) = vcs l ++ vcs m := by simp [vcs]
theorem row_at3 {w : World} {B : Nat} {A : Option Addr} {l : List va.Val} {k : Nat} {v : va.Val} (hr : Row w B A (vcs l)) (hk : l[k]? = some v) : ∃ b o, A = some ⟨b, o, none⟩ ∧ b < B ∧ w.cell? ⟨b, o + k * 3, none⟩ = some (.bool v.nul) ∧ w.cell? ⟨b, o + k * 3 + 1, none⟩ = some (.int .i64 v.n) ∧ w.cell? ⟨b, o + k * 3 + 2, none⟩ = some (.string v.s) := by
  obtain ⟨h0, h1, h2⟩ := vcs_at hk
  obtain ⟨b, o, rfl, hb, c0⟩ := hr.at_ h0
  obtain ⟨b', o', e, -, c1⟩ := hr.at_ h1
  injection e with e
  injection e with e1 e2 e3
  subst e1
  subst e2
  obtain ⟨b', o', e, -, c2⟩ := hr.at_ h2
  injection e with e
  injection e with e1 e2 e4
  subst e1
  subst e2
  exact ⟨b, o, rfl, hb, c0, c1, c2⟩

def ccs (l : List va.Col) : List Value := l.flatMap fun c => [.string c.name, .int .i64 c.kind]
theorem ccs_cons (v : va.Col) (l : List va.Col) : ccs (v :: l) = .string v.name :: .int .i64 v.kind :: ccs l := rfl
theorem ccs_at : ∀ {l : List va.Col} {k : Nat} {v : va.Col}, l[k]? = some v → (ccs l)[k * 2]? = some (.string v.name) ∧ (ccs l)[k * 2 + 1]? = some (.int .i64 v.kind)
  | [], k, v, h => by simp at h
  | u :: l, 0, v, h => by simp at h; subst h; exact ⟨rfl, rfl⟩
  | u :: l, k + 1, v, h => by
    have h' : l[k]? = some v := by simpa using h
    obtain ⟨h0, h1⟩ := ccs_at h'
    rw [ccs_cons, show (k + 1) * 2 = k * 2 + 1 + 1 by omega, show k * 2 + 1 + 1 + 1 = (k * 2 + 1) + 1 + 1 by omega]
    exact ⟨h0, h1⟩
theorem row_at2 {w : World} {B : Nat} {A : Option Addr} {l : List va.Col} {k : Nat} {v : va.Col} (hr : Row w B A (ccs l)) (hk : l[k]? = some v) : ∃ b o, A = some ⟨b, o, none⟩ ∧ b < B ∧ w.cell? ⟨b, o + k * 2, none⟩ = some (.string v.name) ∧ w.cell? ⟨b, o + k * 2 + 1, none⟩ = some (.int .i64 v.kind) := by
  obtain ⟨h0, h1⟩ := ccs_at hk
  obtain ⟨b, o, rfl, hb, c0⟩ := hr.at_ h0
  obtain ⟨b', o', e, hb', c1⟩ := hr.at_ h1
  simp only [Option.some.injEq, Addr.mk.injEq, and_true] at e
  obtain ⟨rfl, rfl⟩ := e
  exact ⟨b, o, rfl, hb, c0, by rw [Nat.add_assoc]; exact c1⟩

end Go.Proofs.YtjedpjfmlaganaaDoor
