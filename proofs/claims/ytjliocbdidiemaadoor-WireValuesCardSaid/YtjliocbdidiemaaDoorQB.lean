/-
  Fields, walked: as the program has them, with bytes of their own.
-/
import Derived.Test.YtjliocbdidiemaaDoorQA
namespace Go.Proofs.YtjliocbdidiemaaDoor
open Go.RowKit
set_option linter.unusedVariables false

theorem Row.grown_ne {w w' : World} {A : Option Addr} {xs : List Value} {row : Option Nat} (h : Row w w.heap.size A xs) (hg : w.grownBy w' row) (hne : xs ≠ [] → ∀ a, A = some a → row ≠ some a.block) : Row w' w'.heap.size A xs := fun hn => by
  obtain ⟨b, o, hA, hb, hc⟩ := h hn
  exact ⟨b, o, hA, Nat.lt_of_lt_of_le hb hg.size, fun j u hu => (World.cell?_of_block (hg.block b hb (fun e => hne hn _ hA e.symm))).trans (hc j u hu)⟩
/-- Their bytes lie there, apart from the row v. -/
def Sep (w : World) (v : Value) (l : List FV) : Prop := ∀ p ∈ l, p.1.b.length ≤ p.2.2 ∧ p.2.2 ≤ maxLen ∧ Row w w.heap.size p.2.1 (u8s p.1.b) ∧ (u8s p.1.b ≠ [] → ∀ a, p.2.1 = some a → v.ownBlock ≠ some a.block)
theorem Sep.nil (w : World) (v : Value) : Sep w v [] := fun p hp => by cases hp
theorem Sep.held {w : World} {v : Value} {l : List FV} (h : Sep w v l) : Held w w.heap.size l := fun p hp => ⟨(h p hp).1, (h p hp).2.1, (h p hp).2.2.1⟩
theorem Sep.le {w w' : World} {v : Value} {l : List FV} (h : Sep w v l) (hb : Le w w') : Sep w' v l := fun p hp => ⟨(h p hp).1, (h p hp).2.1, (h p hp).2.2.1.le hb, (h p hp).2.2.2⟩
theorem Sep.grown {w w' : World} {v v' : Value} {l : List FV} (h : Sep w v l) (hg : w.grownBy w' v.ownBlock) (hv : v'.ownBlock = v.ownBlock ∨ v'.ownBlock = some w.heap.size) : Sep w' v' l := fun p hp => by
  obtain ⟨h1, h2, h3, h4⟩ := h p hp
  refine ⟨h1, h2, h3.grown_ne hg h4, fun hn a ha => ?_⟩
  rcases hv with hv | hv
  · rw [hv]; exact h4 hn a ha
  · rw [hv]
    obtain ⟨b, o, hA, hb, -⟩ := h3 hn
    rw [hA] at ha
    injection ha with ha
    subst ha
    intro e
    injection e with e
    simp only at e
    omega
theorem Sep.append {w : World} {v : Value} {l m : List FV} (h : Sep w v l) (k : Sep w v m) : Sep w v (l ++ m) := fun p hp => (List.mem_append.1 hp).elim (h p) (k p)
theorem Sep.one {w : World} {v : Value} {p : FV} (h1 : p.1.b.length ≤ p.2.2) (h2 : p.2.2 ≤ maxLen) (h3 : Row w w.heap.size p.2.1 (u8s p.1.b)) (h4 : u8s p.1.b ≠ [] → ∀ a, p.2.1 = some a → v.ownBlock ≠ some a.block) : Sep w v [p] := fun q hq => by
  rw [List.mem_singleton.1 hq]
  exact ⟨h1, h2, h3, h4⟩

/-- Their bytes lie in blocks from B on. -/
def Fresh (B : Nat) (l : List FV) : Prop := ∀ p ∈ l, u8s p.1.b ≠ [] → ∀ a, p.2.1 = some a → B ≤ a.block
theorem Sep.other {w : World} {v v' : Value} {l : List FV} {B : Nat} (h : Sep w v l) (hf : Fresh B l) (hv : ∀ g, v'.ownBlock = some g → g < B) : Sep w v' l := fun p hp =>
  ⟨(h p hp).1, (h p hp).2.1, (h p hp).2.2.1, fun hn a ha he => by have h1 := hf p hp hn a ha; have h2 := hv _ he; omega⟩
/-- It hands back these fields, in memory of the call's own. -/
def GivesF (B : Nat) (fs : List Fld) (n : Nat) (w : World) (e : Ending) (w' : World) : Prop :=
  ∃ (A' : Option Addr) (c' : Nat) (l' : List FV), e = .returned (.slice A' n c') ∧ l'.map (·.1) = fs ∧ w'.ownsRow B 49 4 (.slice A' n c') n (fcs l') ∧ (Sep w' (.slice A' n c') l' ∧ Fresh B l') ∧ Below B w w'
end Go.Proofs.YtjliocbdidiemaaDoor
