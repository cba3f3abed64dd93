/-
  A region whose order is drawn, walked in one order, where a fact S holds of all worlds on the way; and handing back a variable's cells beside two values.
-/
import Derived.Test.YtnihladjafnjpaaRegion
import Derived.Test.YtnihladjafnjpaaBox
namespace Go.Proofs.Ytnihladjafnjpaa
open Go.RowKit
section
variable {P : Program} {ops : Array Oper} {Q : Exit → Act → World → Prop} {S : World → Prop}

theorem runS {i : Nat} {o : Oper} {fuel : Nat} {listed : Array Bool} {a : Act} {w : World} (hi : ops[i]? = some o) (hr : Region.ready .any ops listed = [i])
    (h : wpList P ops (fun e a' w' => match e with
      | .normal => S w' ∧ wpAnyH P .any ops (NoPanic Q) S fuel (listed.setIfInBounds i true) a' w'
      | .panic _ => False
      | e => Q e a' w') [o] a w) : wpAnyH P .any ops (NoPanic Q) S (fuel + 1) listed a w := by
  refine wpAnyH_all hr (by simp) fun j hj => ?_
  obtain rfl : j = i := by simpa using hj
  unfold wpOp
  rw [hi]
  simp only
  unfold wpList at h
  split
  · rename_i hw
    rw [if_pos hw] at h
    rcases h with h | ⟨h1, a2, w2, h2⟩
    · refine .inl ?_
      unfold Oper.wp at h ⊢
      generalize (execOp a.eval o).run P w = r at h ⊢
      cases r with
      | ok n w' =>
        cases n <;> simp only [Oper.upon] at h ⊢
        case value u => exact h
        case skip => exact h
        case defer d => exact h
        case enter f args =>
          refine Calls.mono h fun e w'' he => ?_
          cases e with
          | returned u => exact he
          | panicked c => exact he
          | outgrown => obtain ⟨a3, w3, h3⟩ := he; exact ⟨a3, w3, h3⟩
        case row row args => exact Rows.mono h fun u w'' he => he
      | halt x w' =>
        cases x <;> simp only [Oper.upon] at h ⊢
    · exact .inr ⟨h1, a2, w2, h2⟩
  · rename_i hw
    rw [if_neg hw] at h
    exact h

/-- The schedule's walk. -/
def wpPiS (P : Program) (ops : Array Oper) (Q : Exit → Act → World → Prop) (S : World → Prop) : List (Bool × Oper) → Act → World → Prop
  | [], a, w => Q .normal a w
  | (true, o) :: r, a, w =>
    (Region.wanted o (yielded ops a.tmps) = true ∧ ∃ v, (∀ W, S W → (execOp a.eval o).run P W = .ok (.value v) W) ∧ wpPiS P ops Q S r (a.put o.dst v) w) ∨
    (Region.wanted o (yielded ops a.tmps) = false ∧ wpPiS P ops Q S r (a.put o.dst undef) w)
  | (false, o) :: r, a, w => wpList P ops (fun e a' w' => match e with
      | .normal => S w' ∧ wpPiS P ops Q S r a' w'
      | .panic _ => False
      | e => Q e a' w') [o] a w

theorem pis_sound (hs : Region.noSelect ops = true) : ∀ (l : List (Nat × Bool)) (listed : Array Bool) (a : Act) (w : World) (fuel : Nat), l.length ≤ fuel → okPi ops l listed = true → S w →
    wpPiS P ops Q S (opsPi ops l) a w → wpAnyH P .any ops (NoPanic Q) S fuel listed a w := by
  intro l
  induction l with
  | nil =>
    intro listed a w fuel _ ho _ h
    exact wpAnyH_done (by simpa [okPi] using ho) (NoPanic.normal h) fuel
  | cons x l ih =>
    obtain ⟨i, b⟩ := x
    intro listed a w fuel hf ho hS h
    obtain ⟨fuel, rfl⟩ : ∃ f, fuel = f + 1 := ⟨fuel - 1, by simp at hf; omega⟩
    have hf' : l.length ≤ fuel := by simpa using hf
    have mem : i ∈ Region.ready .any ops listed := by
      cases b
      · simp [okPi] at ho; rw [ho.1]; simp
      · simp [okPi] at ho; exact ho.1.2
    obtain ⟨_, o, hi, _⟩ := mem_ready.1 mem
    have e : opsPi ops ((i, b) :: l) = (b, o) :: opsPi ops l := by simp [opsPi, hi]
    rw [e] at h
    cases b
    · simp only [okPi, Bool.and_eq_true, decide_eq_true_eq] at ho
      refine runS hi ho.1 ?_
      unfold wpPiS at h
      have imp : ∀ (E : Exit) (a' : Act) (w' : World), (match E with
          | .normal => S w' ∧ wpPiS P ops Q S (opsPi ops l) a' w'
          | .panic _ => False
          | e => Q e a' w') → (match E with
          | .normal => S w' ∧ wpAnyH P .any ops (NoPanic Q) S fuel (listed.setIfInBounds i true) a' w'
          | .panic _ => False
          | e => Q e a' w') := by
        intro E a' w' q
        cases E <;> first | exact ⟨q.1, ih _ _ _ _ hf' ho.2 q.1 q.2⟩ | exact q
      unfold wpList at h ⊢
      split
      · rename_i hw
        rw [if_pos hw] at h
        rcases h with h | ⟨h1, a2, w2, h2⟩
        · refine .inl ?_
          unfold Oper.wp at h ⊢
          generalize (execOp a.eval o).run P w = r at h ⊢
          cases r with
          | ok n w' =>
            cases n <;> simp only [Oper.upon] at h ⊢
            case value u => exact imp .normal _ _ h
            case skip => exact imp .normal _ _ h
            case defer d => exact imp .normal _ _ h
            case enter f args =>
              refine Calls.mono h fun e w'' he => ?_
              cases e with
              | returned u => exact imp .normal _ _ he
              | panicked c => exact he
              | outgrown => obtain ⟨a3, w3, h3⟩ := he; exact ⟨a3, w3, h3⟩
            case row row args => exact Rows.mono h fun u w'' he => imp .normal _ _ he
          | halt x w' =>
            cases x <;> simp only [Oper.upon] at h ⊢
        · exact .inr ⟨h1, a2, w2, h2⟩
      · rename_i hw
        rw [if_neg hw] at h
        exact imp .normal _ _ h
    · simp only [okPi, Bool.and_eq_true] at ho
      unfold wpPiS at h
      rcases h with ⟨hw, v, hy, h⟩ | ⟨hw, h⟩
      · exact wpAnyH_take hi hs ho.1.1 ho.1.2 (fun _ _ _ k => k) (.inl ⟨hw, hy⟩) hS (ih _ _ _ _ hf' ho.2 hS h)
      · exact wpAnyH_take hi hs ho.1.1 ho.1.2 (fun _ _ _ k => k) (.inr ⟨hw, rfl⟩) hS (ih _ _ _ _ hf' ho.2 hS h)

/-- A region that draws its order, by a schedule. -/
theorem region_pis {id : Nat} {a : Act} {w : World} (S : World → Prop) (l : List (Nat × Bool)) (hm : P.follows .mixedOrders = true) (ho : (Region.noSelect ops && decide (l.length ≤ ops.size) && okPi ops l (Array.replicate ops.size false)) = true)
    (hS : S w.drew) (h : wpPiS P ops Q S (opsPi ops l) a w.drew) : (Code.region id ops true).wp P Q a w := by
  simp only [Bool.and_eq_true, decide_eq_true_eq] at ho
  exact wp_region_noPanic (wp_region_held (S := S) hm (pis_sound ho.1.1 l _ _ _ _ ho.1.2 ho.2 hS h))
theorem pis_take {o : Oper} {r : List (Bool × Oper)} {a : Act} {w : World} {v : Value} (hw : Region.wanted o (yielded ops a.tmps) = true) (hy : ∀ W, S W → (execOp a.eval o).run P W = .ok (.value v) W)
    (h : wpPiS P ops Q S r (a.put o.dst v) w) : wpPiS P ops Q S ((true, o) :: r) a w := .inl ⟨hw, v, hy, h⟩
theorem pis_skip {o : Oper} {r : List (Bool × Oper)} {a : Act} {w : World} (hw : Region.wanted o (yielded ops a.tmps) = false)
    (h : wpPiS P ops Q S r (a.put o.dst undef) w) : wpPiS P ops Q S ((true, o) :: r) a w := .inr ⟨hw, h⟩
theorem pis_run {o : Oper} {r : List (Bool × Oper)} {a : Act} {w : World} (h : wpList P ops (fun e a' w' => match e with
      | .normal => S w' ∧ wpPiS P ops Q S r a' w'
      | .panic _ => False
      | e => Q e a' w') [o] a w) : wpPiS P ops Q S ((false, o) :: r) a w := h
theorem pis_done {a : Act} {w : World} (h : Q .normal a w) : wpPiS P ops Q S [] a w := h
end
/-- A variable's cells are handed back, and two values. -/
theorem box_results2 {P : Program} {fn : Func} {p u v : Tmp} {ty : TypeId} (h : fn.results = #[.cell p ty, .tmp u, .tmp v]) (tmps : Array Value) {w : World} {g : Nat} {t : TypeId} {cs : Array Value} {d : TypeDesc} (hg : Box w g cs t)
    (hp : tmps.getD p undef = .pointer (some ⟨g, 0, none⟩)) (hu : P.underlying ty = some d) (hd : (match d with | .struct _ | .array _ _ => true | _ => false) = true) (hi : (P.info? ty).map (·.size) = some cs.size) :
    (results fn tmps).run P w = .ok (.tuple #[.agg cs, tmps.getD u undef, tmps.getD v undef]) w := by
  have hp' : tmps[p]?.getD undef = .pointer (some ⟨g, 0, none⟩) := by simpa using hp
  simp only [results, h]
  simp [Result.andThen, hp', asAddr, run_loadVar_row w g t ty cs (0, 0) d hg hu hd hi]
end Go.Proofs.Ytnihladjafnjpaa
