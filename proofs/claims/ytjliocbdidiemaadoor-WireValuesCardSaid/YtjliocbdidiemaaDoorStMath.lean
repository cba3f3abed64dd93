/-
  What is known of values, in plain words.
-/
import Derived.Test.YtjliocbdidiemaaDoorValMath
namespace Go.Proofs.YtjliocbdidiemaaDoor.st
open Go va

def none : Val := ⟨true, 0, ⟨#[]⟩⟩
/-- What has been noted: how many, something that is nothing, the least, the greatest, the sum. -/
structure Acc where
  c : Nat
  hn : Bool
  mn : Val
  mx : Val
  t : Int
def low (m v : Val) : Val := if m.nul || decide (cmpV v m < 0) then v else m
def high (m v : Val) : Val := if m.nul || decide (0 < cmpV v m) then v else m
def start : Acc := ⟨0, false, none, none, 0⟩
def step (a : Acc) (v : Val) : Acc := if v.nul then { a with hn := true } else ⟨a.c + 1, a.hn, low a.mn v, high a.mx v, a.t + v.n⟩
def acc (l : List Val) : Acc := l.foldl step start
theorem step_nul {a : Acc} {v : Val} (h : v.nul = true) : step a v = { a with hn := true } := by unfold step; rw [h]; rfl
theorem step_some {a : Acc} {v : Val} (h : v.nul = false) : step a v = ⟨a.c + 1, a.hn, low a.mn v, high a.mx v, a.t + v.n⟩ := by unfold step; rw [h]; rfl
theorem acc_snoc {l : List Val} {k : Nat} {v : Val} (h : l[k]? = some v) : acc (l.take (k + 1)) = step (acc (l.take k)) v := by
  rw [List.take_add_one, h]
  simp [acc]
theorem acc_append (l : List Val) (v : Val) : acc (l ++ [v]) = step (acc l) v := by simp [acc]
def In (n : Int) : Prop := -9223372036854775808 ≤ n ∧ n ≤ 9223372036854775807
theorem acc_bounds : ∀ (l : List Val) (a : Acc), (∀ v ∈ l, In v.n) → (l.foldl step a).c ≤ a.c + l.length ∧ a.c ≤ (l.foldl step a).c ∧ a.t - 9223372036854775808 * ((l.foldl step a).c - a.c) ≤ (l.foldl step a).t ∧ (l.foldl step a).t ≤ a.t + 9223372036854775808 * ((l.foldl step a).c - a.c)
  | [], a, _ => by simp
  | v :: l, a, h => by
    have ih := acc_bounds l (step a v) (fun x hx => h x (by simp [hx]))
    have hv := h v (by simp)
    unfold In at hv
    rw [List.foldl_cons, List.length_cons]
    cases hn : v.nul with
    | true =>
      rw [step_nul hn] at ih ⊢
      simp only at ih
      omega
    | false =>
      rw [step_some hn] at ih ⊢
      simp only at ih
      omega
theorem acc_in {l : List Val} (h : ∀ v ∈ l, In v.n) : (acc l).c ≤ l.length ∧ -9223372036854775808 * ((acc l).c : Int) ≤ (acc l).t ∧ (acc l).t ≤ 9223372036854775808 * ((acc l).c : Int) := by
  have := acc_bounds l start h
  unfold acc
  simp only [start] at this ⊢
  omega
theorem low_nul {m v : Val} (h : v.nul = false) : (low m v).nul = false := by
  unfold low
  cases hm : m.nul with
  | true => simpa using h
  | false =>
    simp only [Bool.false_or]
    split
    · exact h
    · exact hm
theorem high_nul {m v : Val} (h : v.nul = false) : (high m v).nul = false := by
  unfold high
  cases hm : m.nul with
  | true => simpa using h
  | false =>
    simp only [Bool.false_or]
    split
    · exact h
    · exact hm
def Ok (a : Acc) : Prop := (a.c = 0 → a.mn.nul = true ∧ a.mx.nul = true) ∧ (a.c ≠ 0 → a.mn.nul = false ∧ a.mx.nul = false)
theorem ok_step {a : Acc} (h : Ok a) (v : Val) : Ok (step a v) := by
  cases hn : v.nul with
  | true => rw [step_nul hn]; exact h
  | false =>
    rw [step_some hn]
    exact ⟨fun h0 => by simp at h0, fun _ => ⟨low_nul hn, high_nul hn⟩⟩
theorem ok_acc (l : List Val) : Ok (acc l) := by
  have key : ∀ (l : List Val) (a : Acc), Ok a → Ok (l.foldl step a) := by
    intro l
    induction l with
    | nil => intro a h; exact h
    | cons v l ih => intro a h; exact ih _ (ok_step h v)
  exact key l start ⟨fun _ => ⟨rfl, rfl⟩, fun h => absurd rfl h⟩

/-- The one of two that stands further on a way. -/
def best (way : Int) (a b : Val) : Val := if a.nul then b else if !b.nul && decide (0 < way * cmpV b a) then b else a
theorem best_low {m v : Val} (h : v.nul = false) : best (-1) m v = low m v := by
  unfold best low
  cases hm : m.nul with
  | true => simp
  | false =>
    rw [h]
    simp only [Bool.false_eq_true, if_false, Bool.not_false, Bool.true_and, Bool.false_or]
    have e : decide (0 < -1 * cmpV v m) = decide (cmpV v m < 0) := by
      rw [decide_eq_decide]; omega
    rw [e]
theorem best_high {m v : Val} (h : v.nul = false) : best 1 m v = high m v := by
  unfold best high
  cases hm : m.nul with
  | true => simp
  | false =>
    rw [h]
    simp only [Bool.false_eq_true, if_false, Bool.not_false, Bool.true_and, Bool.false_or, Int.one_mul]

/-- All that is known. -/
structure St where
  c : Int
  hn : Bool
  mn : Val
  mx : Val
  sum : Int
  ov : Bool
def num (k : Int) : Bool := decide (1 ≤ k ∧ k ≤ 5)
instance (t : Int) : Decidable (In t) := by unfold In; infer_instance
/-- A sum, or that there is none. -/
def sumOf (t : Int) : Int × Bool := if In t then (t, false) else (0, true)
/-- What is known, with a sum. -/
def summed (k : Int) (s : St) (t : Int) : St := if num k && !s.ov then { s with sum := (sumOf t).1, ov := (sumOf t).2 } else s
def ofAcc (a : Acc) : St := ⟨a.c, a.hn, a.mn, a.mx, 0, false⟩
def of (k : Int) (l : List Val) : St := summed k (ofAcc (acc l)) (acc l).t
def vc (v : Val) : List Value := [.bool v.nul, .int .i64 v.n, .string v.s]
def cells (s : St) : Array Value := #[.int .i64 s.c, .bool s.hn, .bool s.mn.nul, .int .i64 s.mn.n, .string s.mn.s, .bool s.mx.nul, .int .i64 s.mx.n, .string s.mx.s, .int .i64 s.sum, .bool s.ov]
end Go.Proofs.YtjliocbdidiemaaDoor.st
