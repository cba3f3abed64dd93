/-
  Lists of ids, in plain words: what the current list leaves out, and what is wrong with one.
-/
import Derived.Test.YtnihladjafnjpaaListC
namespace Go.Proofs.Ytnihladjafnjpaa

/-- What the current list leaves out of the first k ids. -/
def exc (l : List Int) : Nat → List Int
  | 0 => []
  | k + 1 => if l[k]? = some 2 then exc l k else exc l k ++ [(k : Int) + 1]
theorem exc_len (l : List Int) : ∀ k, (exc l k).length ≤ k
  | 0 => Nat.le_refl _
  | k + 1 => by
    have := exc_len l k
    unfold exc
    split
    · omega
    · rw [List.length_append]; simp; omega
theorem exc_same {l : List Int} {k : Nat} (h : l[k]? = some 2) : exc l (k + 1) = exc l k := by rw [exc, if_pos h]
theorem exc_more {l : List Int} {k : Nat} {x : Int} (h : l[k]? = some x) (hx : x ≠ 2) : exc l (k + 1) = exc l k ++ [(k : Int) + 1] := by
  rw [exc, if_neg (by rw [h]; intro e; injection e with e; exact hx e)]
/-- What holds of an id and its state. -/
def okI (H : Int) (l : List Int) (id s : Int) : Bool := decide (s = 2) || !has H l id
/-- What is wrong with a list. -/
noncomputable def checkI (H : Int) (l states : List Int) : Int := if may H l && decide (H ≤ states.length) && allI (okI H l) states then 0 else 30
theorem check_may {H : Int} {l states : List Int} (h : may H l = false) : checkI H l states = 30 := by simp [checkI, h]
theorem check_high {H : Int} {l states : List Int} (h : (states.length : Int) < H) : checkI H l states = 30 := by simp [checkI, show ¬ H ≤ (states.length : Int) by omega]
theorem check_all {H : Int} {l states : List Int} (h : allI (okI H l) states = false) : checkI H l states = 30 := by simp [checkI, h]
theorem check_ok {H : Int} {l states : List Int} (h1 : may H l = true) (h2 : H ≤ states.length) (h3 : allI (okI H l) states = true) : checkI H l states = 0 := by simp [checkI, h1, h2, h3]
end Go.Proofs.Ytnihladjafnjpaa
