/-
  Values, in plain words: how they are compared, and that this is an order.
-/
import Derived.WalkKit
import Derived.Lib.Hide
namespace Go.Proofs.YtjedpjfmlaganaaDoor.va
open Go

/-- Bytes, one behind the other. -/
def ltS (x y : ByteArray) : Bool := Op.bytesLess x.toList y.toList
def eqS (x y : ByteArray) : Bool := x.toList == y.toList
def cmpI (a b : Int) : Int := if a < b then -1 else if b < a then 1 else 0
def cmpS (x y : ByteArray) : Int := if ltS x y then -1 else if eqS x y then 0 else 1
/-- A value: nothing or not, its number, its text. -/
structure Val where
  nul : Bool
  n : Int
  s : ByteArray
def orI (a b : Int) : Int := if a = 0 then b else a
def cmpV (a b : Val) : Int :=
  if a.nul && !b.nul then -1 else if b.nul && !a.nul then 1 else orI (cmpI a.n b.n) (cmpS a.s b.s)

theorem less_irrefl : ∀ x : List UInt8, Op.bytesLess x x = false
  | [] => rfl
  | a :: x => by
    unfold Op.bytesLess
    simp [less_irrefl x]
theorem less_total : ∀ x y : List UInt8, Op.bytesLess x y = false → x ≠ y → Op.bytesLess y x = true
  | [], [], _, h => absurd rfl h
  | [], b :: y, h, _ => by simp [Op.bytesLess] at h
  | a :: x, [], _, _ => rfl
  | a :: x, b :: y, h, hne => by
    unfold Op.bytesLess at h ⊢
    simp only [Bool.or_eq_false_iff, decide_eq_false_iff_not, Bool.and_eq_false_iff, Bool.or_eq_true, decide_eq_true_eq, Bool.and_eq_true, beq_iff_eq] at h ⊢
    obtain ⟨h1, h2⟩ := h
    by_cases hab : a = b
    · subst hab
      right
      refine ⟨rfl, less_total x y ?_ (fun e => hne (by rw [e]))⟩
      rcases h2 with h2 | h2
      · simp at h2
      · exact h2
    · left
      rcases UInt8.lt_or_lt_of_ne hab with h3 | h3
      · exact absurd h3 h1
      · exact h3
theorem less_trans : ∀ x y z : List UInt8, Op.bytesLess x y = true → Op.bytesLess y z = true → Op.bytesLess x z = true
  | x, [], z, h, _ => by cases x <;> simp [Op.bytesLess] at h
  | x, b :: y, [], _, h => by simp [Op.bytesLess] at h
  | [], b :: y, c :: z, _, _ => rfl
  | a :: x, b :: y, c :: z, h, k => by
    unfold Op.bytesLess at h k ⊢
    simp only [Bool.or_eq_true, decide_eq_true_eq, Bool.and_eq_true, beq_iff_eq] at h k ⊢
    rcases h with h | ⟨rfl, h⟩
    · rcases k with k | ⟨rfl, k⟩
      · exact .inl (UInt8.lt_trans h k)
      · exact .inl h
    · rcases k with k | ⟨rfl, k⟩
      · exact .inl k
      · exact .inr ⟨rfl, less_trans x y z h k⟩
theorem less_asymm {x y : List UInt8} (h : Op.bytesLess x y = true) : Op.bytesLess y x = false := by
  cases hb : Op.bytesLess y x with
  | false => rfl
  | true => have := less_trans x y x h hb; rw [less_irrefl] at this; cases this

theorem cmpI_anti (a b : Int) : cmpI a b = -cmpI b a := by unfold cmpI; split <;> split <;> first | omega | rfl
theorem cmpI_le (a b : Int) : -1 ≤ cmpI a b ∧ cmpI a b ≤ 1 := by unfold cmpI; split <;> (try split) <;> omega
theorem cmpI_zero (a b : Int) : cmpI a b = 0 ↔ a = b := by unfold cmpI; split <;> (try split) <;> constructor <;> intro h <;> omega
theorem cmpI_chain {a b c : Int} (h : cmpI a b ≤ 0) (k : cmpI b c ≤ 0) : cmpI a c ≤ 0 ∧ (cmpI a c = 0 → cmpI a b = 0 ∧ cmpI b c = 0) := by
  unfold cmpI at *
  split at h <;> split at k <;> split <;> (try split at h) <;> (try split at k) <;> (try split) <;> omega
theorem cmpS_less {x y : ByteArray} (h : ltS x y = true) : cmpS x y = -1 ∧ cmpS y x = 1 := by
  have h2 : ltS y x = false := less_asymm h
  have h3 : eqS y x = false := by
    cases he : eqS y x with
    | false => rfl
    | true =>
      have : y.toList = x.toList := by simpa [eqS] using he
      unfold ltS at h
      rw [this, less_irrefl] at h
      cases h
  simp [cmpS, h, h2, h3]
theorem cmpS_eq {x y : ByteArray} (h : eqS x y = true) : cmpS x y = 0 ∧ cmpS y x = 0 := by
  have e : x.toList = y.toList := by simpa [eqS] using h
  simp [cmpS, ltS, eqS, e, less_irrefl]
theorem cmpS_cases (x y : ByteArray) : (ltS x y = true) ∨ (eqS x y = true) ∨ (ltS y x = true) := by
  cases h1 : ltS x y with
  | true => exact .inl rfl
  | false =>
    cases h2 : eqS x y with
    | true => exact .inr (.inl rfl)
    | false => exact .inr (.inr (less_total _ _ h1 (by simpa [eqS] using h2)))
theorem cmpS_anti (x y : ByteArray) : cmpS x y = -cmpS y x := by
  rcases cmpS_cases x y with h | h | h
  · rw [(cmpS_less h).1, (cmpS_less h).2]
  · rw [(cmpS_eq h).1, (cmpS_eq h).2]; rfl
  · rw [(cmpS_less h).1, (cmpS_less h).2]; rfl
theorem cmpS_le (x y : ByteArray) : -1 ≤ cmpS x y ∧ cmpS x y ≤ 1 := by unfold cmpS; split <;> (try split) <;> omega
theorem cmpS_zero (x y : ByteArray) : cmpS x y = 0 ↔ eqS x y = true := by
  rcases cmpS_cases x y with h | h | h
  · rw [(cmpS_less h).1]
    constructor
    · intro h; omega
    · intro he; rw [← (cmpS_less h).1, (cmpS_eq he).1]
  · rw [(cmpS_eq h).1]; simp [h]
  · rw [(cmpS_less h).2]
    constructor
    · intro h; omega
    · intro he; rw [← (cmpS_less h).2, (cmpS_eq he).1]
theorem cmpS_chain {x y z : ByteArray} (h : cmpS x y ≤ 0) (k : cmpS y z ≤ 0) : cmpS x z ≤ 0 := by
  rcases cmpS_cases x y with h1 | h1 | h1
  · rcases cmpS_cases y z with k1 | k1 | k1
    · rw [(cmpS_less (less_trans _ _ _ h1 k1 : ltS x z = true)).1]; omega
    · have e : y.toList = z.toList := by simpa [eqS] using k1
      have : ltS x z = true := by unfold ltS at *; rw [← e]; exact h1
      rw [(cmpS_less this).1]; omega
    · rw [(cmpS_less k1).2] at k; omega
  · have e : x.toList = y.toList := by simpa [eqS] using h1
    have : cmpS x z = cmpS y z := by simp [cmpS, ltS, eqS, e]
    rw [this]; exact k
  · rw [(cmpS_less h1).2] at h; omega

theorem orI_le {a b : Int} (h : -1 ≤ a ∧ a ≤ 1) (k : -1 ≤ b ∧ b ≤ 1) : -1 ≤ orI a b ∧ orI a b ≤ 1 := by unfold orI; split <;> assumption
theorem cmpV_anti (a b : Val) : cmpV a b = -cmpV b a := by
  unfold cmpV
  have h1 := cmpI_anti a.n b.n
  have h2 := cmpS_anti a.s b.s
  cases a.nul <;> cases b.nul <;> simp only [orI, Bool.not_true, Bool.not_false, Bool.and_true, Bool.and_false, if_true, if_false, Bool.false_eq_true] <;> first | rfl | (split <;> split <;> omega)
theorem cmpV_le (a b : Val) : -1 ≤ cmpV a b ∧ cmpV a b ≤ 1 := by
  unfold cmpV
  split
  · omega
  · split
    · omega
    · exact orI_le (cmpI_le _ _) (cmpS_le _ _)
theorem cmpV_zero (a b : Val) : cmpV a b = 0 ↔ (a.nul = b.nul ∧ a.n = b.n ∧ eqS a.s b.s = true) := by
  have h1 := cmpI_zero a.n b.n
  have h2 := cmpS_zero a.s b.s
  unfold cmpV
  cases ha : a.nul <;> cases hb : b.nul <;> simp only [orI, Bool.not_true, Bool.not_false, Bool.and_true, Bool.and_false, if_true, if_false, Bool.false_eq_true]
  · split
    · rename_i h; rw [h2]; simp [h1.1 h]
    · rename_i h; constructor
      · intro e; exact absurd e h
      · intro e; exact absurd (h1.2 e.2.1) h
  · simp
  · simp
  · split
    · rename_i h; rw [h2]; simp [h1.1 h]
    · rename_i h; constructor
      · intro e; exact absurd e h
      · intro e; exact absurd (h1.2 e.2.1) h
theorem cmpV_chain {a b c : Val} (h : cmpV a b ≤ 0) (k : cmpV b c ≤ 0) : cmpV a c ≤ 0 := by
  unfold cmpV at *
  have i1 := @cmpI_chain a.n b.n c.n
  have i2 := @cmpS_chain a.s b.s c.s
  cases ha : a.nul <;> cases hb : b.nul <;> cases hc : c.nul <;> rw [ha, hb] at h <;> rw [hb, hc] at k <;> simp only [orI, Bool.not_true, Bool.not_false, Bool.and_true, Bool.and_false, if_true, if_false, Bool.false_eq_true] at h k ⊢ <;> first | omega | skip
  all_goals
    have h' : cmpI a.n b.n ≤ 0 := by split at h <;> omega
    have k' : cmpI b.n c.n ≤ 0 := by split at k <;> omega
    obtain ⟨j1, j2⟩ := i1 h' k'
    split
    · rename_i h0
      obtain ⟨e1, e2⟩ := j2 h0
      rw [if_pos e1] at h
      rw [if_pos e2] at k
      exact i2 h k
    · exact j1
theorem cmpV_self (a : Val) : cmpV a a = 0 := (cmpV_zero a a).2 ⟨rfl, rfl, by simp [eqS]⟩
theorem less_nil : ∀ x : List UInt8, Op.bytesLess x [] = false
  | [] => rfl
  | _ :: _ => rfl
/-- Nothing stands ahead of what is nothing. -/
theorem cmpV_least (a : Val) (h : -9223372036854775808 ≤ a.n) : cmpV ⟨true, -9223372036854775808, ⟨#[]⟩⟩ a ≤ 0 := by
  unfold cmpV
  have hs : cmpS ⟨#[]⟩ a.s ≤ 0 := by
    rcases cmpS_cases ⟨#[]⟩ a.s with h1 | h1 | h1
    · rw [(cmpS_less h1).1]; omega
    · rw [(cmpS_eq h1).1]; omega
    · exfalso
      have e : (⟨#[]⟩ : ByteArray).toList = [] := by rw [ByteArray.toList_eq]
      unfold ltS at h1
      rw [e, less_nil] at h1
      cases h1
  have hi : cmpI (-9223372036854775808) a.n ≤ 0 := by unfold cmpI; split <;> (try split) <;> omega
  cases a.nul <;> simp only [orI, Bool.not_true, Bool.not_false, Bool.and_true, Bool.and_false, if_true, if_false, Bool.false_eq_true]
  · omega
  · split
    · exact hs
    · exact hi
end Go.Proofs.YtjedpjfmlaganaaDoor.va
