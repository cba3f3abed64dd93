/-
  Columns, in plain words.
-/
import Derived.Test.YtjedpjfmlaganaaDoorMayMath
namespace Go.Proofs.YtjedpjfmlaganaaDoor.va
open Go

def letterB (c : Nat) : Bool := (decide (97 ≤ c) && decide (c ≤ 122)) || (decide (48 ≤ c) && decide (c ≤ 57)) || decide (c = 95)
def lettersB (l : List UInt8) : Bool := l.all fun c => letterB c.toNat
def nameV (s : ByteArray) : Bool := lettersB s.data.toList && (!emp s && decide (s.size ≤ 20))
structure Col where
  name : ByteArray
  kind : Int
def kindV (k : Int) : Bool := decide (1 ≤ k ∧ k ≤ 7)
def seenV (l : List Col) (s : ByteArray) : Bool := l.any fun c => eqS c.name s
def goodV : List Col → List Col → Bool
  | _, [] => true
  | p, c :: l => nameV c.name && (kindV c.kind && (!seenV p c.name && goodV (p ++ [c]) l))
def schemaV (l : List Col) : Int := if 1 ≤ l.length ∧ l.length ≤ 6 ∧ goodV [] l = true then 0 else 20
def fitsV : List Col → List Val → Bool
  | c :: l, v :: r => mayV c.kind v && fitsV l r
  | _, _ => true
def rowV (l : List Col) (r : List Val) : Int := if l.length = r.length ∧ fitsV l r = true then 0 else 21

theorem drop_step {α : Type} {l : List α} {i : Nat} {c : α} (h : l[i]? = some c) : l.drop i = c :: l.drop (i + 1) := by
  obtain ⟨hi, rfl⟩ := List.getElem?_eq_some_iff.1 h
  exact List.drop_eq_getElem_cons hi
theorem take_step {α : Type} {l : List α} {i : Nat} {c : α} (h : l[i]? = some c) : l.take (i + 1) = l.take i ++ [c] := by
  rw [List.take_add_one, h]; rfl
theorem good_step {l : List Col} {i : Nat} {c : Col} (h : l[i]? = some c) : goodV (l.take i) (l.drop i) = (nameV c.name && (kindV c.kind && (!seenV (l.take i) c.name && goodV (l.take (i + 1)) (l.drop (i + 1))))) := by
  rw [drop_step h, take_step h]; rfl
theorem seen_step {l : List Col} {i : Nat} {c : Col} (h : l[i]? = some c) (s : ByteArray) : seenV (l.drop i) s = (eqS c.name s || seenV (l.drop (i + 1)) s) := by
  rw [drop_step h]; rfl
theorem fits_step {l : List Col} {r : List Val} {i : Nat} {c : Col} {v : Val} (h : l[i]? = some c) (k : r[i]? = some v) : fitsV (l.drop i) (r.drop i) = (mayV c.kind v && fitsV (l.drop (i + 1)) (r.drop (i + 1))) := by
  rw [drop_step h, drop_step k]; rfl
theorem letters_step {l : List UInt8} {i : Nat} {c : UInt8} (h : l[i]? = some c) : lettersB (l.drop i) = (letterB c.toNat && lettersB (l.drop (i + 1))) := by
  rw [drop_step h]; rfl
end Go.Proofs.YtjedpjfmlaganaaDoor.va
