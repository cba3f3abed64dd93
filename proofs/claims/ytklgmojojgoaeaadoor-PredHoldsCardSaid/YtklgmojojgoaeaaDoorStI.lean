/-
  What is known of values, in plain words: each stands between the least and the greatest one.
-/
import Derived.Test.YtklgmojojgoaeaaDoorStMath
namespace Go.Proofs.YtklgmojojgoaeaaDoor.st
open Go va

def Among (seen : List Val) (a : Acc) : Prop :=
  (∀ v ∈ seen, v.nul = false → a.mn.nul = false ∧ a.mx.nul = false ∧ cmpV a.mn v ≤ 0 ∧ cmpV v a.mx ≤ 0) ∧ (a.c ≠ 0 → a.mn ∈ seen ∧ a.mx ∈ seen ∧ a.mn.nul = false ∧ a.mx.nul = false)
theorem among_step {seen : List Val} {a : Acc} (h : Among seen a) (hok : Ok a) (v : Val) : Among (seen ++ [v]) (step a v) := by
  obtain ⟨h1, h2⟩ := h
  cases hn : v.nul with
  | true =>
    rw [step_nul hn]
    refine ⟨fun u hu hun => ?_, fun hc => ?_⟩
    · rcases List.mem_append.1 hu with hu | hu
      · exact h1 u hu hun
      · rw [List.mem_singleton.1 hu, hn] at hun; cases hun
    · have := h2 hc
      exact ⟨List.mem_append_left _ this.1, List.mem_append_left _ this.2.1, this.2.2⟩
  | false =>
    rw [step_some hn]
    have self := cmpV_self v
    refine ⟨fun u hu hun => ⟨low_nul hn, high_nul hn, ?_, ?_⟩, fun _ => ⟨?_, ?_, low_nul hn, high_nul hn⟩⟩
    · show cmpV (low a.mn v) u ≤ 0
      unfold low
      cases hm : a.mn.nul with
      | true =>
        rcases List.mem_append.1 hu with hu | hu
        · have := (h1 u hu hun).1; rw [hm] at this; cases this
        · rw [List.mem_singleton.1 hu]; simp [self]
      | false =>
        simp only [Bool.false_or]
        by_cases hlt : cmpV v a.mn < 0
        · rw [decide_eq_true hlt, if_pos rfl]
          rcases List.mem_append.1 hu with hu | hu
          · exact cmpV_chain (by omega) (h1 u hu hun).2.2.1
          · rw [List.mem_singleton.1 hu, self]; exact Int.le_refl _
        · rw [decide_eq_false hlt, if_neg (by simp)]
          rcases List.mem_append.1 hu with hu | hu
          · exact (h1 u hu hun).2.2.1
          · rw [List.mem_singleton.1 hu, cmpV_anti]; omega
    · show cmpV u (high a.mx v) ≤ 0
      unfold high
      cases hm : a.mx.nul with
      | true =>
        rcases List.mem_append.1 hu with hu | hu
        · have := (h1 u hu hun).2.1; rw [hm] at this; cases this
        · rw [List.mem_singleton.1 hu]; simp [self]
      | false =>
        simp only [Bool.false_or]
        by_cases hlt : 0 < cmpV v a.mx
        · rw [decide_eq_true hlt, if_pos rfl]
          rcases List.mem_append.1 hu with hu | hu
          · exact cmpV_chain (h1 u hu hun).2.2.2 (by rw [cmpV_anti]; omega)
          · rw [List.mem_singleton.1 hu, self]; exact Int.le_refl _
        · rw [decide_eq_false hlt, if_neg (by simp)]
          rcases List.mem_append.1 hu with hu | hu
          · exact (h1 u hu hun).2.2.2
          · rw [List.mem_singleton.1 hu]; omega
    · show low a.mn v ∈ seen ++ [v]
      unfold low
      cases hm : a.mn.nul with
      | true => simp
      | false =>
        simp only [Bool.false_or]
        by_cases hlt : cmpV v a.mn < 0
        · rw [decide_eq_true hlt, if_pos rfl]; simp
        · rw [decide_eq_false hlt, if_neg (by simp)]
          by_cases hc : a.c = 0
          · have := (hok.1 hc).1; rw [hm] at this; cases this
          · exact List.mem_append_left _ (h2 hc).1
    · show high a.mx v ∈ seen ++ [v]
      unfold high
      cases hm : a.mx.nul with
      | true => simp
      | false =>
        simp only [Bool.false_or]
        by_cases hlt : 0 < cmpV v a.mx
        · rw [decide_eq_true hlt, if_pos rfl]; simp
        · rw [decide_eq_false hlt, if_neg (by simp)]
          by_cases hc : a.c = 0
          · have := (hok.1 hc).2; rw [hm] at this; cases this
          · exact List.mem_append_left _ (h2 hc).2.1
theorem among_fold : ∀ (l seen : List Val) (a : Acc), Among seen a → Ok a → Among (seen ++ l) (l.foldl step a)
  | [], seen, a, h, _ => by rw [List.append_nil]; exact h
  | v :: l, seen, a, h, hok => by
    have := among_fold l (seen ++ [v]) (step a v) (among_step h hok v) (ok_step hok v)
    rw [List.append_assoc] at this
    exact this
theorem among_acc (l : List Val) : Among l (acc l) := by
  have := among_fold l [] start ⟨fun v hv => (by cases hv), fun h => absurd rfl h⟩ ⟨fun _ => ⟨rfl, rfl⟩, fun h => absurd rfl h⟩
  rw [List.nil_append] at this
  exact this
theorem hn_fold : ∀ (l : List Val) (a : Acc) (m : Nat), a.c ≤ m → a.hn = decide (a.c < m) → (l.foldl step a).c ≤ m + l.length ∧ (l.foldl step a).hn = decide ((l.foldl step a).c < m + l.length)
  | [], a, m, h, h2 => by simpa using ⟨h, h2⟩
  | v :: l, a, m, h, h2 => by
    have ih := hn_fold l (step a v) (m + 1)
    rw [List.foldl_cons, List.length_cons, show m + (l.length + 1) = m + 1 + l.length by omega]
    refine ih ?_ ?_
    · cases hn : v.nul with
      | true => rw [step_nul hn]; simp only; omega
      | false => rw [step_some hn]; simp only; omega
    · cases hn : v.nul with
      | true => rw [step_nul hn]; simp only; symm; rw [decide_eq_true_eq]; omega
      | false =>
        rw [step_some hn]; simp only
        rw [h2, decide_eq_decide]; omega
theorem acc_hn (l : List Val) : (acc l).hn = decide ((acc l).c < l.length) := by
  have := (hn_fold l start 0 (Nat.le_refl _) rfl).2
  rw [Nat.zero_add] at this
  exact this
/-- The same value. -/
def eqb (a b : Val) : Bool := decide (a.nul = b.nul ∧ a.n = b.n ∧ a.s.toList = b.s.toList)
theorem eqb_self (a : Val) : eqb a a = true := by simp [eqb]
def has (p : Val) (l : List Val) : Bool := l.any fun v => !v.nul && eqb v p
theorem has_snoc_nul {p : Val} {l : List Val} {k : Nat} {v : Val} (h : l[k]? = some v) (hn : v.nul = true) : has p (l.take (k + 1)) = has p (l.take k) := by
  rw [List.take_add_one, h]
  simp [has, hn]
theorem has_snoc_some {p : Val} {l : List Val} {k : Nat} {v : Val} (h : l[k]? = some v) (hn : v.nul = false) : has p (l.take (k + 1)) = (has p (l.take k) || eqb v p) := by
  rw [List.take_add_one, h]
  simp [has, hn]
theorem has_least (l : List Val) : has (acc l).mn l = decide (0 < (acc l).c) ∧ has (acc l).mx l = decide (0 < (acc l).c) := by
  obtain ⟨h1, h2⟩ := among_acc l
  by_cases hc : (acc l).c = 0
  · have hall : ∀ v ∈ l, v.nul = true := fun v hv => by
      cases hn : v.nul with
      | true => rfl
      | false =>
        have := (h1 v hv hn).1
        rw [((ok_acc l).1 hc).1] at this
        cases this
    have e : ∀ p, has p l = false := fun p => by
      unfold has
      rw [List.any_eq_false]
      intro v hv
      simp [hall v hv]
    rw [e, e, hc]
    simp
  · obtain ⟨m1, m2, n1, n2⟩ := h2 hc
    rw [decide_eq_true (by omega)]
    unfold has
    rw [List.any_eq_true, List.any_eq_true]
    exact ⟨⟨_, m1, by simp [n1, eqb_self]⟩, ⟨_, m2, by simp [n2, eqb_self]⟩⟩
theorem nul_iff (l : List Val) : (acc l).mn.nul = decide ((acc l).c = 0) ∧ (acc l).mx.nul = decide ((acc l).c = 0) := by
  have h := ok_acc l
  by_cases hc : (acc l).c = 0
  · rw [decide_eq_true hc]; exact h.1 hc
  · rw [decide_eq_false hc]; exact h.2 hc
end Go.Proofs.YtklgmojojgoaeaaDoor.st
