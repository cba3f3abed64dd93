/-
  What is taken as a number fits.
-/
import Derived.Test.YtjliocbdidiemaaDoorVarMath
namespace Go.Proofs.YtjliocbdidiemaaDoor

theorem ptake_lt (f : Nat) : ∀ (i a : Nat) (l : List Nat) (x : Nat) (r : List Nat), i + f = 10 → a < 128 ^ i → (∀ c ∈ l, c < 256) → var.ptake f i a l = some (x, r) → x < 18446744073709551616 := by
  induction f with
  | zero => intro i a l x r _ _ _ h; cases h
  | succ f ih =>
    intro i a l x r hi ha h8 h
    rcases l with _ | ⟨c, l⟩
    · cases h
    · have hc := h8 c (by simp)
      simp only [var.ptake] at h
      split at h
      · rename_i hc2
        refine ih (i + 1) _ l x r (by omega) ?_ (fun c hc => h8 c (by simp [hc])) h
        have : (c - 128) * 128 ^ i ≤ 127 * 128 ^ i := Nat.mul_le_mul_right _ (by omega)
        rw [Nat.pow_succ]
        omega
      · rename_i hc2
        split at h
        · cases h
        · rename_i hno
          simp at h
          obtain ⟨rfl, -⟩ := h
          by_cases h9 : i = 9
          · subst h9
            have : c ≤ 1 := by omega
            have h2 : c * 128 ^ 9 ≤ 1 * 128 ^ 9 := Nat.mul_le_mul_right _ this
            omega
          · have h2 : c * 128 ^ i ≤ 127 * 128 ^ i := Nat.mul_le_mul_right _ (by omega)
            have h3 : 128 ^ i ≤ 128 ^ 8 := Nat.pow_le_pow_right (by omega) (by omega)
            omega
theorem vtake_s64 {l r : List Nat} {x : Nat} (h8 : ∀ c ∈ l, c < 256) (h : var.vtake l = some (x, r)) : var.S64 x := ptake_lt 10 0 0 l x r rfl (by omega) h8 h
theorem vtake8 {l r : List Nat} {x : Nat} (h8 : ∀ c ∈ l, c < 256) (h : var.vtake l = some (x, r)) : ∀ c ∈ r, c < 256 := by
  obtain ⟨p, rfl, -⟩ := var.vtake_suffix h
  exact fun c hc => h8 c (by simp [hc])
end Go.Proofs.YtjliocbdidiemaaDoor
