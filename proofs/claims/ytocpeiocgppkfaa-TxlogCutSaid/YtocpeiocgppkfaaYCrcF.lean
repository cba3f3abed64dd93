/-
  The laws on seals, walked: seals are as the document says; what was sealed is opened as it was.
-/
import Derived.Test.YtocpeiocgppkfaaYCrcE
namespace Go.Proofs.Ytocpeiocgppkfaa
open Go.RowKit
set_option linter.unusedVariables false

/-- What opening hands back, and the error's number. -/
def opened (l : List Nat) : List Nat := (opens l).getD []
def openErr (l : List Nat) : Int := if (opens l).isNone then 2 else 0
theorem copen_any (w : World) (b : Nat) (A : Option Addr) (n c : Nat) (l : List Nat) (hl : l.length = n) (hn : n ≤ 1000) (hnc : n ≤ c) (hc : c ≤ maxLen) (h8 : ∀ x ∈ l, x < 256) (hb : b < w.heap.size) (ht : HasTab w b) (hr : Row w w.heap.size A (u8s l)) :
    Calls Try.prog 40 #[.pointer (some ⟨b, 0, none⟩), .slice A n c] w (Gives2 w.heap.size 5 1 (opened l).length (u8s (opened l)) (.int .i64 (openErr l)) w) := by
  unfold opened openErr
  cases ho : opens l with
  | none => exact open_none_any w b A n c l hl hn hnc hc h8 hb ht hr ho
  | some l2 => exact open_some_any w b A n c l hl hn hnc hc h8 hb ht hr l2 ho
theorem refopen_any (w : World) (A : Option Addr) (n c : Nat) (l : List Nat) (hl : l.length = n) (hn : n ≤ 1000) (hnc : n ≤ c) (hc : c ≤ maxLen) (h8 : ∀ x ∈ l, x < 256) (hr : Row w w.heap.size A (u8s l)) :
    Calls Try.prog 43 #[.slice A n c] w (Gives2 w.heap.size 5 1 (opened l).length (u8s (opened l)) (.int .i64 (openErr l)) w) := by
  unfold opened openErr
  cases ho : opens l with
  | none => exact refopen_none_any w A n c l hl hn hnc hc h8 hr ho
  | some l2 => exact refopen_some_any w A n c l hl hn hnc hc h8 hr l2 ho
theorem opened8 {l : List Nat} (h8 : ∀ x ∈ l, x < 256) : ∀ x ∈ opened l, x < 256 := by
  unfold opened opens
  split
  · exact take8 h8 _
  · simp
theorem opens_seal (l : List Nat) : opens (crc.seal_ l) = some l := by
  have e : (crc.seal_ l).length - 4 = l.length := by rw [crc.seal_length]; omega
  unfold opens
  rw [e]
  have e2 : (crc.seal_ l).take l.length = l := by simp [crc.seal_]
  rw [e2, if_pos ⟨by rw [crc.seal_length]; omega, rfl⟩]
theorem opens_nil : opens [] = none := by simp [opens]

end Go.Proofs.Ytocpeiocgppkfaa
