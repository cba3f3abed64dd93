/-
  Predicates, in plain words.
-/
import Derived.Test.YtjedpjfmlaganaaDoorRowV
namespace Go.Proofs.YtjedpjfmlaganaaDoor.pr
open Go va
set_option linter.unusedVariables false

/-- A node: an operation, a column, a value, values, what it names; with where these two lie. -/
structure Nd where
  op : Int
  col : Int
  v : Val
  vA : Option Addr
  vn : Nat
  vc : Nat
  vals : List Val
  lA : Option Addr
  ln : Nat
  lc : Nat
  L : List Int

def yesI (b : Bool) : Int := if b then 2 else 0
def sameV (a b : Val) : Bool := decide (a.nul = b.nul ∧ a.n = b.n ∧ a.s.toList = b.s.toList)
def isN (op : Int) : Bool := decide (op = 1) || (decide (op = 2) || decide (op = 3))
/-- What a node that names none comes to, of the value at its column. -/
def askedV (n : Nd) (v : Val) : Int :=
  if n.op = 9 then 2 else if n.op = 8 then yesI v.nul else if v.nul = true then 1 else if n.op = 7 then yesI (n.vals.any fun u => sameV v u)
  else if n.op = 4 then yesI (decide (cmpV v n.v = 0)) else if n.op = 5 then yesI (decide (cmpV v n.v < 0)) else yesI (decide (cmpV v n.v ≤ 0))
def none : Val := ⟨true, 0, ⟨#[]⟩⟩
def at' (l : List Int) (k : Int) : Int := l.getD k.toNat 0
def nodeV (r : List Val) (out : List Int) (n : Nd) : Int :=
  if n.op = 1 then n.L.foldl (fun x k => min x (at' out k)) 2 else if n.op = 2 then n.L.foldl (fun x k => max x (at' out k)) 0
  else if n.op = 3 then 2 - at' out (n.L.getD 0 0) else askedV n (r.getD n.col.toNat none)
def evalGo (r : List Val) : List Int → List Nd → List Int
  | out, [] => out
  | out, n :: l => evalGo r (out ++ [nodeV r out n]) l
def evalV (l : List Nd) (r : List Val) : Int := at' (evalGo r [] l) ((l.length : Int) - 1)

/-- What may be. -/
def someV (k : Int) (v : Val) : Bool := mayV k v && !v.nul
def kindAt (cols : List Col) (c : Int) : Int := (cols.getD c.toNat ⟨⟨#[]⟩, 0⟩).kind
def leafOk (cols : List Col) (n : Nd) : Bool :=
  decide (4 ≤ n.op ∧ n.op ≤ 9) && (decide (n.op = 9) || (decide (0 ≤ n.col ∧ n.col < cols.length) &&
    (decide (n.op = 8) || (if n.op = 7 then n.vals.all (someV (kindAt cols n.col)) && decide (1 ≤ n.vals.length ∧ n.vals.length ≤ 10) else someV (kindAt cols n.col) n.v))))
def linksOk (i : Nat) (L : List Int) : Bool := L.all fun k => decide (0 ≤ k ∧ k < i)
def linkOk (i : Nat) (n : Nd) : Bool := decide (1 ≤ n.L.length) && (!(decide (n.op = 3) && decide (1 < n.L.length)) && linksOk i n.L)
def deep (ds : List Int) (d : Int) (L : List Int) : Int := L.foldl (fun d k => max d (at' ds k)) d
def depth (ds : List Int) (n : Nd) : Int := if isN n.op then deep ds 0 n.L else 0
def nodeOk (cols : List Col) (i : Nat) (ds : List Int) (n : Nd) : Bool := (if isN n.op then linkOk i n else leafOk cols n) && decide (depth ds n + 1 ≤ 6)
def mayGo (cols : List Col) : Nat → List Int → List Nd → Bool
  | _, _, [] => true
  | i, ds, n :: l => nodeOk cols i ds n && mayGo cols (i + 1) (ds ++ [depth ds n + 1]) l
def mayP (cols : List Col) (l : List Nd) : Bool := decide (1 ≤ l.length ∧ l.length ≤ 40) && mayGo cols 0 [] l

/-- What is needed of a node at place i. -/
def Fine (m : Nat) (i : Nat) (n : Nd) : Prop :=
  (isN n.op = true → 1 ≤ n.L.length ∧ (n.op = 3 → n.L.length ≤ 1) ∧ ∀ k ∈ n.L, 0 ≤ k ∧ k < i) ∧ (isN n.op = false → 4 ≤ n.op ∧ n.op ≤ 9 ∧ (n.op ≠ 9 → 0 ≤ n.col ∧ n.col < m))
theorem fine_of {cols : List Col} {i : Nat} {ds : List Int} {n : Nd} (h : nodeOk cols i ds n = true) : Fine cols.length i n := by
  unfold nodeOk at h
  rw [Bool.and_eq_true] at h
  refine ⟨fun hn => ?_, fun hn => ?_⟩
  · have h1 := h.1
    rw [hn] at h1
    simp only [if_true, linkOk, Bool.and_eq_true, linksOk, List.all_eq_true, decide_eq_true_eq, Bool.not_eq_true', Bool.and_eq_false_iff, decide_eq_false_iff_not] at h1
    exact ⟨h1.1, fun h3 => by have := h1.2.1; omega, h1.2.2⟩
  · have h1 := h.1
    rw [hn] at h1
    simp only [Bool.false_eq_true, if_false, leafOk, Bool.and_eq_true, Bool.or_eq_true, decide_eq_true_eq] at h1
    refine ⟨h1.1.1, h1.1.2, fun h9 => ?_⟩
    rcases h1.2 with h2 | h2
    · exact absurd h2 h9
    · exact h2.1
theorem fine_all {cols : List Col} : ∀ (l : List Nd) (i : Nat) (ds : List Int), mayGo cols i ds l = true → ∀ j n, l[j]? = some n → Fine cols.length (i + j) n
  | [], _, _, _, j, n, h => by simp at h
  | m :: l, i, ds, h, 0, n, hn => by
    simp at hn
    subst hn
    simp only [mayGo, Bool.and_eq_true] at h
    exact fine_of h.1
  | m :: l, i, ds, h, j + 1, n, hn => by
    simp only [mayGo, Bool.and_eq_true] at h
    have := fine_all l (i + 1) _ h.2 j n (by simpa using hn)
    rwa [show i + 1 + j = i + (j + 1) by omega] at this
theorem may_fine {cols : List Col} {l : List Nd} (h : mayP cols l = true) : 1 ≤ l.length ∧ l.length ≤ 40 ∧ ∀ j n, l[j]? = some n → Fine cols.length j n := by
  unfold mayP at h
  rw [Bool.and_eq_true, decide_eq_true_eq] at h
  exact ⟨h.1.1, h.1.2, fun j n hn => by have := fine_all l 0 [] h.2 j n hn; rwa [Nat.zero_add] at this⟩

/-- All that has come out is of three. -/
def Three (out : List Int) : Prop := ∀ x ∈ out, 0 ≤ x ∧ x ≤ 2
theorem at_three {out : List Int} (h : Three out) (k : Int) : 0 ≤ at' out k ∧ at' out k ≤ 2 := by
  unfold at'
  by_cases hk : k.toNat < out.length
  · rw [List.getD_eq_getElem?_getD, List.getElem?_eq_getElem hk]
    exact h _ (List.getElem_mem hk)
  · rw [List.getD_eq_getElem?_getD, List.getElem?_eq_none (by omega)]
    simp
theorem yes_three (b : Bool) : 0 ≤ yesI b ∧ yesI b ≤ 2 := by cases b <;> simp [yesI]
theorem asked_three (n : Nd) (v : Val) : 0 ≤ askedV n v ∧ askedV n v ≤ 2 := by
  unfold askedV
  repeat' split
  all_goals first | exact yes_three _ | omega
theorem min_three {out : List Int} (h : Three out) : ∀ (L : List Int) (x : Int), 0 ≤ x ∧ x ≤ 2 → 0 ≤ L.foldl (fun x k => min x (at' out k)) x ∧ L.foldl (fun x k => min x (at' out k)) x ≤ 2
  | [], x, hx => hx
  | k :: L, x, hx => by
    have := at_three h k
    exact min_three h L _ (by show 0 ≤ min x (at' out k) ∧ min x (at' out k) ≤ 2; omega)
theorem max_three {out : List Int} (h : Three out) : ∀ (L : List Int) (x : Int), 0 ≤ x ∧ x ≤ 2 → 0 ≤ L.foldl (fun x k => max x (at' out k)) x ∧ L.foldl (fun x k => max x (at' out k)) x ≤ 2
  | [], x, hx => hx
  | k :: L, x, hx => by
    have := at_three h k
    exact max_three h L _ (by show 0 ≤ max x (at' out k) ∧ max x (at' out k) ≤ 2; omega)
theorem node_three {r : List Val} {out : List Int} {n : Nd} (h : Three out) : 0 ≤ nodeV r out n ∧ nodeV r out n ≤ 2 := by
  unfold nodeV
  split
  · exact min_three h _ _ (by omega)
  · split
    · exact max_three h _ _ (by omega)
    · split
      · have := at_three h (n.L.getD 0 0)
        omega
      · exact asked_three _ _
theorem three_snoc {out : List Int} {x : Int} (h : Three out) (hx : 0 ≤ x ∧ x ≤ 2) : Three (out ++ [x]) := by
  intro y hy
  rcases List.mem_append.1 hy with hy | hy
  · exact h y hy
  · rw [List.mem_singleton.1 hy]; exact hx
theorem eval_step {r : List Val} {out : List Int} {l : List Nd} {i : Nat} {n : Nd} (h : l[i]? = some n) : evalGo r out (l.drop i) = evalGo r (out ++ [nodeV r out n]) (l.drop (i + 1)) := by
  rw [drop_step h]; rfl
theorem mayGo_step {cols : List Col} {i : Nat} {ds : List Int} {l : List Nd} {n : Nd} (h : l[i]? = some n) : mayGo cols i ds (l.drop i) = (nodeOk cols i ds n && mayGo cols (i + 1) (ds ++ [depth ds n + 1]) (l.drop (i + 1))) := by
  rw [drop_step h]; rfl
theorem evalGo_length (r : List Val) : ∀ (l : List Nd) (out : List Int), (evalGo r out l).length = out.length + l.length
  | [], out => rfl
  | n :: l, out => by
    simp only [evalGo]
    rw [evalGo_length r l]
    simp
    omega
theorem evalGo_three (r : List Val) : ∀ (l : List Nd) (out : List Int), Three out → Three (evalGo r out l)
  | [], out, h => h
  | n :: l, out, h => evalGo_three r l _ (three_snoc h (node_three h))
end Go.Proofs.YtjedpjfmlaganaaDoor.pr
