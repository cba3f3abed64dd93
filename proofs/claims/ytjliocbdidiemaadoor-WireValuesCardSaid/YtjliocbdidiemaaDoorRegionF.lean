/-
  A region whose order is drawn, step by step: where one of two operations may come up, each is walked.
-/
import Derived.Test.YtjliocbdidiemaaDoorRegion
namespace Go.Proofs.YtjliocbdidiemaaDoor
open Go.RowKit
section
variable {P : Program} {ops : Array Oper} {Q : Exit → Act → World → Prop}

/-- Whichever of those that may come up comes up. -/
theorem early_all {rs : List Nat} {fuel : Nat} {listed : Array Bool} {a : Act} {w : World} (hr : Region.ready .any ops listed = rs) (hne : rs ≠ [])
    (h : ∀ i ∈ rs, ∃ o, ops[i]? = some o ∧ wpList P ops (fun e a' w' => match e with
      | .normal => Le w w' ∧ Early P ops Q fuel (listed.setIfInBounds i true) a' w'
      | .panic _ => False
      | e => Q e a' w') [o] a w) : Early P ops Q (fuel + 1) listed a w := by
  refine wpAnyH_all hr hne fun j hj => ?_
  obtain ⟨o, hi, h⟩ := h j hj
  unfold wpOp
  rw [hi]
  simp only
  have fwd : ∀ a' w', (Le w w' ∧ Early P ops Q fuel (listed.setIfInBounds j true) a' w') → Le w w' ∧ wpAnyH P .any ops (NoPanic Q) (Le w) fuel (listed.setIfInBounds j true) a' w' :=
    fun a' w' k => ⟨k.1, wpAnyH_mono (fun W hW => Le.trans k.1 hW) _ _ _ _ k.2⟩
  unfold wpList at h
  split
  · rename_i hw
    rw [if_pos hw] at h
    rcases h with h | ⟨h1, a2, w2, h2⟩
    · refine .inl ?_
      unfold Oper.wp at h ⊢
      generalize (execOp a.eval o).run P w = r at h ⊢
      cases r with
      | ok n w' =>
        cases n <;> simp only [Oper.upon] at h ⊢
        case value u => exact fwd _ _ h
        case skip => exact fwd _ _ h
        case defer d => exact fwd _ _ h
        case enter f args =>
          refine Calls.mono h fun e w'' he => ?_
          cases e with
          | returned u => exact fwd _ _ he
          | panicked c => exact he
          | outgrown => obtain ⟨a3, w3, h3⟩ := he; exact ⟨a3, w3, h3⟩
        case row row args => exact Rows.mono h fun u w'' he => fwd _ _ he
      | halt x w' =>
        cases x <;> simp only [Oper.upon] at h ⊢
    · exact .inr ⟨h1, a2, w2, h2⟩
  · rename_i hw
    rw [if_neg hw] at h
    exact fwd _ _ h
theorem early_one {i : Nat} {o : Oper} {fuel : Nat} {listed : Array Bool} {a : Act} {w : World} (hi : ops[i]? = some o) (hr : Region.ready .any ops listed = [i])
    (h : wpList P ops (fun e a' w' => match e with
      | .normal => Le w w' ∧ Early P ops Q fuel (listed.setIfInBounds i true) a' w'
      | .panic _ => False
      | e => Q e a' w') [o] a w) : Early P ops Q (fuel + 1) listed a w :=
  early_all hr (by simp) fun j hj => by obtain rfl : j = i := by simpa using hj
                                        exact ⟨o, hi, h⟩
theorem early_two {i j : Nat} {o p : Oper} {fuel : Nat} {listed : Array Bool} {a : Act} {w : World} (hi : ops[i]? = some o) (hj : ops[j]? = some p) (hr : Region.ready .any ops listed = [i, j])
    (h : wpList P ops (fun e a' w' => match e with
      | .normal => Le w w' ∧ Early P ops Q fuel (listed.setIfInBounds i true) a' w'
      | .panic _ => False
      | e => Q e a' w') [o] a w)
    (k : wpList P ops (fun e a' w' => match e with
      | .normal => Le w w' ∧ Early P ops Q fuel (listed.setIfInBounds j true) a' w'
      | .panic _ => False
      | e => Q e a' w') [p] a w) : Early P ops Q (fuel + 1) listed a w :=
  early_all hr (by simp) fun m hm => by
    rcases List.mem_cons.1 hm with rfl | hm
    · exact ⟨o, hi, h⟩
    · obtain rfl : m = j := by simpa using hm
      exact ⟨p, hj, k⟩
end
end Go.Proofs.YtjliocbdidiemaaDoor
