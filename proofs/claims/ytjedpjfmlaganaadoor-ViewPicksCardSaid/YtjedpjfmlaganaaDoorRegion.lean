/-
  A region whose order is drawn, walked in one order: what only reads is taken as soon as its operands are there, in whatever world has grown out of the one at hand; what makes memory runs when nothing else may come up.
-/
import Derived.Deep.RegionHeld3
import Derived.Test.YtjedpjfmlaganaaDoorMem
namespace Go.Proofs.YtjedpjfmlaganaaDoor
open Go.RowKit

/-- W has grown out of w: whatever was there is as it was. -/
def Le (w W : World) : Prop := Below w.heap.size w W
theorem Le.refl (w : World) : Le w w := Below.refl _ _
theorem Le.trans {a b c : World} (h : Le a b) (k : Le b c) : Le a c := Below.trans h (Below.mono k h.size)
theorem Le.size {a b : World} (h : Le a b) : a.heap.size ≤ b.heap.size := Below.size h
theorem Le.row {a b : World} {B : Nat} {A : Option Addr} {xs : List Value} (h : Le a b) (hr : Row a B A xs) (hB : B ≤ a.heap.size) : Row b B A xs := hr.below h hB

section
variable {P : Program} {ops : Array Oper} {Q : Exit → Act → World → Prop}

theorem wpAnyH_mono {md : Region.Mode} {S S' : World → Prop} (h : ∀ W, S' W → S W) : ∀ (fuel : Nat) (listed : Array Bool) (a : Act) (w : World), wpAnyH P md ops Q S' fuel listed a w → wpAnyH P md ops Q S fuel listed a w
  | 0, _, _, _, k => k
  | fuel + 1, _, _, _, k => ⟨k.1, fun i hi => wpOp_mono (fun a' w' q => ⟨h _ q.1, wpAnyH_mono h fuel _ a' w' q.2⟩) (k.2 i hi)⟩

/-- From here on, whatever order is picked. -/
def Early (P : Program) (ops : Array Oper) (Q : Exit → Act → World → Prop) (fuel : Nat) (listed : Array Bool) (a : Act) (w : World) : Prop :=
  wpAnyH P .any ops (NoPanic Q) (Le w) fuel listed a w
/-- Where an operation that makes memory has run. -/
def Ran (P : Program) (ops : Array Oper) (Q : Exit → Act → World → Prop) (fuel : Nat) (listed : Array Bool) (w : World) : Exit → Act → World → Prop
  | .normal, a', w' => Le w w' ∧ Early P ops Q fuel listed a' w'
  | .panic _, _, _ => False
  | e, a', w' => Q e a' w'
theorem ran {fuel : Nat} {listed : Array Bool} {w w' : World} {a' : Act} (h : Le w w') (k : Early P ops Q fuel listed a' w') : Ran P ops Q fuel listed w .normal a' w' := ⟨h, k⟩

theorem early_begin {id : Nat} {a : Act} {w : World} (hm : P.follows .mixedOrders = true) (h : Early P ops Q ops.size (Array.replicate ops.size false) a w.drew) : (Code.region id ops true).wp P Q a w :=
  wp_region_noPanic (wp_region_held (S := Le w.drew) hm h)

theorem early_take {i : Nat} {o : Oper} {v : Value} {fuel : Nat} {listed : Array Bool} {a : Act} {w : World} (hi : ops[i]? = some o)
    (hs : Region.noSelect ops = true) (hf : Region.free .any ops listed i = true) (hr : (Region.ready .any ops listed).contains i = true)
    (hw : Region.wanted o (yielded ops a.tmps) = true) (hy : ∀ W, Le w W → (execOp a.eval o).run P W = .ok (.value v) W)
    (h : Early P ops Q fuel (listed.setIfInBounds i true) (a.put o.dst v) w) : Early P ops Q (fuel + 1) listed a w :=
  wpAnyH_take hi hs hf hr (fun _ _ _ k => k) (.inl ⟨hw, hy⟩) (Le.refl w) h
theorem early_skip {i : Nat} {o : Oper} {fuel : Nat} {listed : Array Bool} {a : Act} {w : World} (hi : ops[i]? = some o)
    (hs : Region.noSelect ops = true) (hf : Region.free .any ops listed i = true) (hr : (Region.ready .any ops listed).contains i = true)
    (hw : Region.wanted o (yielded ops a.tmps) = false)
    (h : Early P ops Q fuel (listed.setIfInBounds i true) (a.put o.dst undef) w) : Early P ops Q (fuel + 1) listed a w :=
  wpAnyH_take hi hs hf hr (fun _ _ _ k => k) (.inr ⟨hw, rfl⟩) (Le.refl w) h

theorem early_run {i : Nat} {o : Oper} {fuel : Nat} {listed : Array Bool} {a : Act} {w : World} (hi : ops[i]? = some o) (hr : Region.ready .any ops listed = [i])
    (h : wpList P ops (Ran P ops Q fuel (listed.setIfInBounds i true) w) [o] a w) : Early P ops Q (fuel + 1) listed a w := by
  refine wpAnyH_all hr (by simp) fun j hj => ?_
  obtain rfl : j = i := by simpa using hj
  unfold wpOp
  rw [hi]
  simp only
  have fwd : ∀ a' w', Ran P ops Q fuel (listed.setIfInBounds j true) w .normal a' w' → Le w w' ∧ wpAnyH P .any ops (NoPanic Q) (Le w) fuel (listed.setIfInBounds j true) a' w' :=
    fun a' w' k => ⟨k.1, wpAnyH_mono (fun W hW => Le.trans k.1 hW) _ _ _ _ k.2⟩
  unfold wpList at h
  split
  · rename_i hw
    rw [if_pos hw] at h
    rcases h with h | ⟨h1, a2, w2, h2⟩
    · refine .inl ?_
      unfold Oper.wp at h ⊢
      generalize (execOp a.eval o).run P w = r at h ⊢
      cases r with
      | ok n w' =>
        cases n <;> simp only [Oper.upon] at h ⊢
        case value u => exact fwd _ _ h
        case skip => exact fwd _ _ h
        case defer d => exact fwd _ _ h
        case enter f args =>
          refine Calls.mono h fun e w'' he => ?_
          cases e with
          | returned u => exact fwd _ _ he
          | panicked c => exact he
          | outgrown => obtain ⟨a3, w3, h3⟩ := he; exact ⟨a3, w3, h3⟩
        case row row args => exact Rows.mono h fun u w'' he => fwd _ _ he
      | halt x w' =>
        cases x <;> simp only [Oper.upon] at h ⊢
        case panic u => exact h
    · exact .inr ⟨h1, a2, w2, h2⟩
  · rename_i hw
    rw [if_neg hw] at h
    exact fwd _ _ h

theorem early_done {listed : Array Bool} {a : Act} {w : World} (hr : Region.ready .any ops listed = []) (h : Q .normal a w) (fuel : Nat) : Early P ops Q fuel listed a w :=
  wpAnyH_done hr (NoPanic.normal h) fuel

/-- A schedule: which operation, and whether it only reads (true) or may make memory (false); each comes up when it may. -/
def okPi (ops : Array Oper) : List (Nat × Bool) → Array Bool → Bool
  | [], listed => (Region.ready .any ops listed).isEmpty
  | (i, true) :: r, listed => Region.free .any ops listed i && (Region.ready .any ops listed).contains i && okPi ops r (listed.setIfInBounds i true)
  | (i, false) :: r, listed => decide (Region.ready .any ops listed = [i]) && okPi ops r (listed.setIfInBounds i true)
def opsPi (ops : Array Oper) (l : List (Nat × Bool)) : List (Bool × Oper) := l.filterMap fun x => (ops[x.1]?).map fun o => (x.2, o)

/-- The schedule's walk. -/
def wpPi (P : Program) (ops : Array Oper) (Q : Exit → Act → World → Prop) : List (Bool × Oper) → Act → World → Prop
  | [], a, w => Q .normal a w
  | (true, o) :: r, a, w =>
    (Region.wanted o (yielded ops a.tmps) = true ∧ ∃ v, (∀ W, Le w W → (execOp a.eval o).run P W = .ok (.value v) W) ∧ wpPi P ops Q r (a.put o.dst v) w) ∨
    (Region.wanted o (yielded ops a.tmps) = false ∧ wpPi P ops Q r (a.put o.dst undef) w)
  | (false, o) :: r, a, w => wpList P ops (fun e a' w' => match e with
      | .normal => Le w w' ∧ wpPi P ops Q r a' w'
      | .panic _ => False
      | e => Q e a' w') [o] a w

theorem early_mono_fuel {fuel : Nat} {listed : Array Bool} {a : Act} {w : World} (h : Early P ops Q fuel listed a w) : Early P ops Q fuel listed a w := h

theorem pi_sound (hs : Region.noSelect ops = true) : ∀ (l : List (Nat × Bool)) (listed : Array Bool) (a : Act) (w : World) (fuel : Nat), l.length ≤ fuel → okPi ops l listed = true →
    wpPi P ops Q (opsPi ops l) a w → Early P ops Q fuel listed a w := by
  intro l
  induction l with
  | nil =>
    intro listed a w fuel _ ho h
    exact early_done (by simpa [okPi] using ho) h fuel
  | cons x l ih =>
    obtain ⟨i, b⟩ := x
    intro listed a w fuel hf ho h
    obtain ⟨fuel, rfl⟩ : ∃ f, fuel = f + 1 := ⟨fuel - 1, by simp at hf; omega⟩
    have hf' : l.length ≤ fuel := by simpa using hf
    have mem : i ∈ Region.ready .any ops listed := by
      cases b
      · simp [okPi] at ho; rw [ho.1]; simp
      · simp [okPi] at ho; exact ho.1.2
    obtain ⟨_, o, hi, _⟩ := mem_ready.1 mem
    have e : opsPi ops ((i, b) :: l) = (b, o) :: opsPi ops l := by simp [opsPi, hi]
    rw [e] at h
    cases b
    · simp only [okPi, Bool.and_eq_true, decide_eq_true_eq] at ho
      refine early_run hi ho.1 ?_
      unfold wpPi at h
      have imp : ∀ (E : Exit) (a' : Act) (w' : World), (match E with
          | .normal => Le w w' ∧ wpPi P ops Q (opsPi ops l) a' w'
          | .panic _ => False
          | e => Q e a' w') → Ran P ops Q fuel (listed.setIfInBounds i true) w E a' w' := by
        intro E a' w' q
        cases E <;> first | exact ⟨q.1, ih _ _ _ _ hf' ho.2 q.2⟩ | exact q
      unfold wpList at h ⊢
      split
      · rename_i hw
        rw [if_pos hw] at h
        rcases h with h | ⟨h1, a2, w2, h2⟩
        · refine .inl ?_
          unfold Oper.wp at h ⊢
          generalize (execOp a.eval o).run P w = r at h ⊢
          cases r with
          | ok n w' =>
            cases n <;> simp only [Oper.upon] at h ⊢
            case value u => exact imp .normal _ _ h
            case skip => exact imp .normal _ _ h
            case defer d => exact imp .normal _ _ h
            case enter f args =>
              refine Calls.mono h fun e w'' he => ?_
              cases e with
              | returned u => exact imp .normal _ _ he
              | panicked c => exact imp (.panic c) _ _ he
              | outgrown => obtain ⟨a3, w3, h3⟩ := he; exact ⟨a3, w3, h3⟩
            case row row args => exact Rows.mono h fun u w'' he => imp .normal _ _ he
          | halt x w' =>
            cases x <;> simp only [Oper.upon] at h ⊢
        · exact .inr ⟨h1, a2, w2, h2⟩
      · rename_i hw
        rw [if_neg hw] at h
        exact imp .normal _ _ h
    · simp only [okPi, Bool.and_eq_true] at ho
      unfold wpPi at h
      rcases h with ⟨hw, v, hy, h⟩ | ⟨hw, h⟩
      · exact early_take hi hs ho.1.1 ho.1.2 hw hy (ih _ _ _ _ hf' ho.2 h)
      · exact early_skip hi hs ho.1.1 ho.1.2 hw (ih _ _ _ _ hf' ho.2 h)

/-- A region that draws its order, by a schedule. -/
theorem region_pi {id : Nat} {a : Act} {w : World} (l : List (Nat × Bool)) (hm : P.follows .mixedOrders = true) (ho : (Region.noSelect ops && decide (l.length ≤ ops.size) && okPi ops l (Array.replicate ops.size false)) = true)
    (h : wpPi P ops Q (opsPi ops l) a w.drew) : (Code.region id ops true).wp P Q a w := by
  simp only [Bool.and_eq_true, decide_eq_true_eq] at ho
  exact early_begin hm (pi_sound ho.1.1 l _ _ _ _ ho.1.2 ho.2 h)
theorem pi_take {o : Oper} {r : List (Bool × Oper)} {a : Act} {w : World} {v : Value} (hw : Region.wanted o (yielded ops a.tmps) = true) (hy : ∀ W, Le w W → (execOp a.eval o).run P W = .ok (.value v) W)
    (h : wpPi P ops Q r (a.put o.dst v) w) : wpPi P ops Q ((true, o) :: r) a w := .inl ⟨hw, v, hy, h⟩
theorem pi_skip {o : Oper} {r : List (Bool × Oper)} {a : Act} {w : World} (hw : Region.wanted o (yielded ops a.tmps) = false)
    (h : wpPi P ops Q r (a.put o.dst undef) w) : wpPi P ops Q ((true, o) :: r) a w := .inr ⟨hw, h⟩
theorem pi_run {o : Oper} {r : List (Bool × Oper)} {a : Act} {w : World} (h : wpList P ops (fun e a' w' => match e with
      | .normal => Le w w' ∧ wpPi P ops Q r a' w'
      | .panic _ => False
      | e => Q e a' w') [o] a w) : wpPi P ops Q ((false, o) :: r) a w := h
theorem pi_done {a : Act} {w : World} (h : Q .normal a w) : wpPi P ops Q [] a w := h
end
end Go.Proofs.YtjedpjfmlaganaaDoor
