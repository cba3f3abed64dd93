/-
  What may come out of a predicate, in plain words.
-/
import Derived.Test.YtklgmojojgoaeaaDoorPrMath
import Derived.Test.YtklgmojojgoaeaaDoorStMath
namespace Go.Proofs.YtklgmojojgoaeaaDoor.ou
open Go va pr
set_option linter.unusedVariables false

/-- No, unknown, yes: which of the three may come out. -/
structure T3 where
  a : Bool
  b : Bool
  c : Bool
def T3.cells (x : T3) : Array Value := #[.bool x.a, .bool x.b, .bool x.c]
def zero : T3 := ⟨false, false, false⟩
def get (x : T3) : Nat → Bool
  | 0 => x.a
  | 1 => x.b
  | _ => x.c
def set (x : T3) (k : Nat) (v : Bool) : T3 := match k with
  | 0 => ⟨v, x.b, x.c⟩
  | 1 => ⟨x.a, v, x.c⟩
  | _ => ⟨x.a, x.b, v⟩
def two (op : Int) (i j : Nat) : Nat := if op = 1 then min i j else max i j
def stepP (op : Int) (x y o : T3) (i j : Nat) : T3 := set o (two op i j) (get o (two op i j) || (get x i && get y j))
def pj (op : Int) (x y : T3) : Nat → T3
  | 0 => zero
  | k + 1 => stepP op x y (pj op x y k) (k / 3) (k % 3)
/-- What may come out of two. -/
def joinV (op : Int) (x y : T3) : T3 := pj op x y 9
def notV (x : T3) : T3 := ⟨x.c, x.b, x.a⟩
/-- Whether a value stands between the least and the greatest one. -/
def withinV (s : st.St) (v : Val) : Bool := decide (cmpV s.mn v ≤ 0) && decide (0 ≤ cmpV s.mx v)
/-- What may come out of a node that names none. -/
def knownV (n : Nd) (s : st.St) : T3 :=
  if n.op = 9 then ⟨false, false, true⟩ else if n.op = 8 then ⟨decide (0 < s.c), false, s.hn⟩ else if s.c = 0 then ⟨false, s.hn, false⟩
  else if n.op = 4 then ⟨decide (cmpV s.mn n.v ≠ 0) || decide (cmpV s.mx n.v ≠ 0), s.hn, withinV s n.v⟩
  else if n.op = 5 then ⟨decide (0 ≤ cmpV s.mx n.v), s.hn, decide (cmpV s.mn n.v < 0)⟩
  else if n.op = 6 then ⟨decide (0 < cmpV s.mx n.v), s.hn, decide (cmpV s.mn n.v ≤ 0)⟩
  else ⟨decide (cmpV s.mn s.mx ≠ 0) || !(n.vals.any fun u => sameV u s.mn), s.hn, n.vals.any (withinV s)⟩
end Go.Proofs.YtklgmojojgoaeaaDoor.ou
