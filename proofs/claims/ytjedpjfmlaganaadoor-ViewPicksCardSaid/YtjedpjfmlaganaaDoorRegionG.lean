/-
  A region whose order is drawn, where a fact T of the worlds holds until a first store comes up: what waits for nobody and is waited for by that store may be taken in any world that meets T.
-/
import Derived.Test.YtjedpjfmlaganaaDoorRegion
namespace Go.Proofs.YtjedpjfmlaganaaDoor
open Go.RowKit
section
variable {P : Program} {ops : Array Oper} {Q : Exit → Act → World → Prop} {T : World → Prop} {s1 : Nat}

/-- Number b waits for number a, through whomever. -/
def reaches (ops : Array Oper) : Nat → Nat → Nat → Bool
  | 0, b, a => b == a
  | f + 1, b, a => b == a || (match ops[b]? with | some o => o.after.any fun e => Region.binds .any e && reaches ops f e.on a | none => false)
/-- Who has come up has those that it waits for behind it. -/
def Clo (ops : Array Oper) (listed : Array Bool) : Prop := ∀ j o, ops[j]? = some o → listed.getD j false = true → ∀ e ∈ o.after, Region.binds .any e = true → listed.getD e.on false = true
theorem clo_start (ops : Array Oper) (n : Nat) : Clo ops (Array.replicate n false) := fun j o _ h => by
  rw [Array.getD_eq_getD_getElem?, Array.getElem?_replicate] at h
  split at h <;> simp at h
theorem clo_set {listed : Array Bool} (hc : Clo ops listed) {i : Nat} (hi : i ∈ Region.ready .any ops listed) : Clo ops (listed.setIfInBounds i true) := by
  intro j o ho hj e he hb
  by_cases hij : i = j
  · subst hij
    obtain ⟨-, o', ho', hall⟩ := mem_ready.1 hi
    obtain rfl := Option.some.inj (ho.symm.trans ho')
    exact getD_set_true (hall e he hb)
  · rw [getD_set_ne false hij] at hj
    exact getD_set_true (hc j o ho hj e he hb)
theorem clo_reaches {listed : Array Bool} (hc : Clo ops listed) : ∀ (f b a : Nat), reaches ops f b a = true → listed.getD b false = true → listed.getD a false = true
  | 0, b, a, h, hb => by
    obtain rfl : b = a := by simpa [reaches] using h
    exact hb
  | f + 1, b, a, h, hb => by
    unfold reaches at h
    rcases Bool.or_eq_true_iff.1 h with h | h
    · obtain rfl : b = a := by simpa using h
      exact hb
    · cases ho : ops[b]? with
      | none => rw [ho] at h; simp at h
      | some o =>
        rw [ho] at h
        simp only [Array.any_eq_true'] at h
        obtain ⟨e, he, h⟩ := h
        rw [Bool.and_eq_true] at h
        exact clo_reaches hc f e.on a h.2 (hc b o ho hb e he h.1)
theorem unlisted {listed : Array Bool} {i : Nat} (h : listed.getD i true = false) : listed.getD i false = false := by
  rw [Array.getD_eq_getD_getElem?] at h ⊢
  cases hx : listed[i]? with
  | none => rw [hx] at h; simp at h
  | some x => rw [hx] at h; simpa using h

/-- Whatever order is picked from here on; T holds till number s1 has come up. -/
def wpAnyG (P : Program) (ops : Array Oper) (Q : Exit → Act → World → Prop) (T : World → Prop) (s1 : Nat) : Nat → Array Bool → Act → World → Prop
  | 0, listed, a, w => Region.ready .any ops listed = [] ∧ Q .normal a w
  | fuel + 1, listed, a, w =>
    (Region.ready .any ops listed = [] → Q .normal a w) ∧
    ∀ i ∈ Region.ready .any ops listed, wpOp P ops Q i (fun a' w' => ((listed.setIfInBounds i true).getD s1 false = false → T w') ∧ wpAnyG P ops Q T s1 fuel (listed.setIfInBounds i true) a' w') a w
theorem wpAny_of_G : ∀ (fuel : Nat) (listed : Array Bool) (a : Act) (w : World), wpAnyG P ops Q T s1 fuel listed a w → wpAny P .any ops Q fuel listed a w
  | 0, _, _, _, h => h
  | fuel + 1, _, _, _, h => ⟨h.1, fun i hi => wpOp_mono (fun a' w' h' => wpAny_of_G fuel _ a' w' h'.2) (h.2 i hi)⟩

theorem wpAnyG_first {i : Nat} {oi : Oper} {v : Value} {Y : World → Prop} (hi : ops[i]? = some oi) (hsel : ∀ (j : Nat) (o : Oper) cs b, ops[j]? = some o → o.op ≠ .select cs b)
    (hQ : ∀ c a w, Q (.panic c) (a.put oi.dst v) w → Q (.panic c) a w) (his : i ≠ s1) (hY : ∀ listed w, Clo ops listed → listed.getD i false = false → (listed.getD s1 false = false → T w) → Y w) :
    ∀ (fuel : Nat) (listed : Array Bool) (a : Act) (w : World), Clo ops listed →
      (∀ j oj, ops[j]? = some oj → j ≠ i → listed.getD j true = false → (∀ e ∈ oj.after, Region.binds .any e = true → e.on ≠ i) → oi.apart ops oj = true) →
      i ∈ Region.ready .any ops listed → YieldsIf P ops Y oi v a → (listed.getD s1 false = false → T w) →
      wpAnyG P ops Q T s1 fuel (listed.setIfInBounds i true) (a.put oi.dst v) w → wpAnyG P ops Q T s1 (fuel + 1) listed a w := by
  intro fuel
  induction fuel with
  | zero =>
    intro listed a w hc _ hr hy hT H
    have hS : Y w := hY listed w hc (unlisted (mem_ready.1 hr).1) hT
    refine ⟨fun h => (by rw [h] at hr; cases hr), fun j hj => ?_⟩
    by_cases hji : j = i
    · subst hji; exact hy.wpOp hi hS ⟨fun h => hT (by rwa [getD_set_ne false his] at h), H⟩
    · have := ready_mono hj hji
      rw [H.1] at this
      cases this
  | succ fuel ih =>
    intro listed a w hc hfree hr hy hT H
    have hS : Y w := hY listed w hc (unlisted (mem_ready.1 hr).1) hT
    refine ⟨fun h => (by rw [h] at hr; cases hr), fun j hj => ?_⟩
    by_cases hji : j = i
    · subst hji; exact hy.wpOp hi hS ⟨fun h => hT (by rwa [getD_set_ne false his] at h), H⟩
    · have h1 := H.2 j (ready_mono hj hji)
      obtain ⟨hjun, oj, hoj, hall⟩ := mem_ready.1 hj
      have hnot : ∀ e ∈ oj.after, Region.binds .any e = true → e.on ≠ i := fun e he hb heq => by
        have h1 := hall e he hb
        have h0 := (mem_ready.1 hr).1
        rw [heq, unlisted h0] at h1
        cases h1
      have h2 := wpOp_putIf hoj (hfree j oj hoj hji hjun hnot) (fun cs b => hsel i oi cs b hi) (fun cs b => hsel j oj cs b hoj) hQ hy h1
      have hfree' : ∀ k ok, ops[k]? = some ok → k ≠ i → (listed.setIfInBounds j true).getD k true = false →
          (∀ e ∈ ok.after, Region.binds .any e = true → e.on ≠ i) → oi.apart ops ok = true := fun k ok hk hki hun hno => by
        refine hfree k ok hk hki ?_ hno
        by_cases hjk : j = k
        · subst hjk; exact hjun
        · rw [getD_set_ne true hjk] at hun; exact hun
      refine wpOp_mono (fun a' w' h3 => ?_) h2
      have hTj : (listed.setIfInBounds j true).getD s1 false = false → T w' := fun h => h3.2.1 (by
        rw [Array.setIfInBounds_comm _ _ (Ne.symm hji), getD_set_ne false his]; exact h)
      refine ⟨hTj, ih (listed.setIfInBounds j true) a' w' (clo_set hc hj) hfree' (ready_mono hr (Ne.symm hji)) h3.1 hTj ?_⟩
      rw [Array.setIfInBounds_comm _ _ hji]
      exact h3.2.2

theorem runG {i : Nat} {o : Oper} {fuel : Nat} {listed : Array Bool} {a : Act} {w : World} (hi : ops[i]? = some o) (hr : Region.ready .any ops listed = [i])
    (h : wpList P ops (fun e a' w' => match e with
      | .normal => ((listed.setIfInBounds i true).getD s1 false = false → T w') ∧ wpAnyG P ops (NoPanic Q) T s1 fuel (listed.setIfInBounds i true) a' w'
      | .panic _ => False
      | e => Q e a' w') [o] a w) : wpAnyG P ops (NoPanic Q) T s1 (fuel + 1) listed a w := by
  refine ⟨fun h0 => (by rw [hr] at h0; cases h0), fun j hj => ?_⟩
  rw [hr] at hj
  obtain rfl : j = i := by simpa using hj
  unfold wpOp
  rw [hi]
  simp only
  unfold wpList at h
  split
  · rename_i hw
    rw [if_pos hw] at h
    rcases h with h | ⟨h1, a2, w2, h2⟩
    · refine .inl ?_
      unfold Oper.wp at h ⊢
      generalize (execOp a.eval o).run P w = r at h ⊢
      cases r with
      | ok n w' =>
        cases n <;> simp only [Oper.upon] at h ⊢
        case value u => exact h
        case skip => exact h
        case defer d => exact h
        case enter f args =>
          refine Calls.mono h fun e w'' he => ?_
          cases e with
          | returned u => exact he
          | panicked c => exact he
          | outgrown => obtain ⟨a3, w3, h3⟩ := he; exact ⟨a3, w3, h3⟩
        case row row args => exact Rows.mono h fun u w'' he => he
      | halt x w' =>
        cases x <;> simp only [Oper.upon] at h ⊢
    · exact .inr ⟨h1, a2, w2, h2⟩
  · rename_i hw
    rw [if_neg hw] at h
    exact h

/-- A schedule: 0: taken while T holds; 1: taken in any world; 2: run, T holding behind it; 3: run, the first store or later. -/
def okPiG (ops : Array Oper) (s1 : Nat) : List (Nat × Nat) → Array Bool → Bool
  | [], listed => (Region.ready .any ops listed).isEmpty
  | (i, 0) :: r, listed => Region.free .any ops listed i && (Region.ready .any ops listed).contains i && decide (i ≠ s1) && reaches ops ops.size s1 i && okPiG ops s1 r (listed.setIfInBounds i true)
  | (i, 1) :: r, listed => Region.free .any ops listed i && (Region.ready .any ops listed).contains i && decide (i ≠ s1) && okPiG ops s1 r (listed.setIfInBounds i true)
  | (i, 2) :: r, listed => decide (Region.ready .any ops listed = [i]) && okPiG ops s1 r (listed.setIfInBounds i true)
  | (i, _ + 3) :: r, listed => decide (Region.ready .any ops listed = [i]) && (listed.setIfInBounds i true).getD s1 false && okPiG ops s1 r (listed.setIfInBounds i true)
def opsPiG (ops : Array Oper) (l : List (Nat × Nat)) : List (Nat × Oper) := l.filterMap fun x => (ops[x.1]?).map fun o => (x.2, o)
def wpPiG (P : Program) (ops : Array Oper) (Q : Exit → Act → World → Prop) (T : World → Prop) : List (Nat × Oper) → Act → World → Prop
  | [], a, w => Q .normal a w
  | (0, o) :: r, a, w =>
    (Region.wanted o (yielded ops a.tmps) = true ∧ ∃ v, (∀ W, T W → (execOp a.eval o).run P W = .ok (.value v) W) ∧ wpPiG P ops Q T r (a.put o.dst v) w) ∨
    (Region.wanted o (yielded ops a.tmps) = false ∧ wpPiG P ops Q T r (a.put o.dst undef) w)
  | (1, o) :: r, a, w =>
    (Region.wanted o (yielded ops a.tmps) = true ∧ ∃ v, (∀ W, (execOp a.eval o).run P W = .ok (.value v) W) ∧ wpPiG P ops Q T r (a.put o.dst v) w) ∨
    (Region.wanted o (yielded ops a.tmps) = false ∧ wpPiG P ops Q T r (a.put o.dst undef) w)
  | (2, o) :: r, a, w => wpList P ops (fun e a' w' => match e with
      | .normal => T w' ∧ wpPiG P ops Q T r a' w'
      | .panic _ => False
      | e => Q e a' w') [o] a w
  | (_ + 3, o) :: r, a, w => wpList P ops (fun e a' w' => match e with
      | .normal => wpPiG P ops Q T r a' w'
      | .panic _ => False
      | e => Q e a' w') [o] a w

theorem wpList_imp {o : Oper} {R R' : Exit → Act → World → Prop} {a : Act} {w : World} (himp : ∀ E a' w', R E a' w' → R' E a' w') (h : wpList P ops R [o] a w) : wpList P ops R' [o] a w := by
  unfold wpList at h ⊢
  split
  · rename_i hw
    rw [if_pos hw] at h
    rcases h with h | ⟨h1, a2, w2, h2⟩
    · refine .inl ?_
      unfold Oper.wp at h ⊢
      generalize (execOp a.eval o).run P w = r at h ⊢
      cases r with
      | ok n w' =>
        cases n <;> simp only [Oper.upon] at h ⊢
        case value u => exact himp .normal _ _ h
        case skip => exact himp .normal _ _ h
        case defer d => exact himp .normal _ _ h
        case enter f args =>
          refine Calls.mono h fun e w'' he => ?_
          cases e with
          | returned u => exact himp .normal _ _ he
          | panicked c => exact himp (.panic c) _ _ he
          | outgrown =>
            obtain ⟨a3, w3, h3⟩ := he
            exact ⟨a3, w3, himp _ _ _ h3⟩
        case row row args => exact Rows.mono h fun u w'' he => himp .normal _ _ he
      | halt x w' =>
        cases x <;> simp only [Oper.upon] at h ⊢
        all_goals exact himp _ _ _ h
    · exact .inr ⟨h1, a2, w2, himp _ _ _ h2⟩
  · rename_i hw
    rw [if_neg hw] at h
    exact himp .normal _ _ h

theorem pig_sound (hs : Region.noSelect ops = true) : ∀ (l : List (Nat × Nat)) (listed : Array Bool) (a : Act) (w : World) (fuel : Nat), l.length ≤ fuel → okPiG ops s1 l listed = true → Clo ops listed →
    (listed.getD s1 false = false → T w) → wpPiG P ops Q T (opsPiG ops l) a w → wpAnyG P ops (NoPanic Q) T s1 fuel listed a w := by
  intro l
  induction l with
  | nil =>
    intro listed a w fuel _ ho _ _ h
    have hr : Region.ready .any ops listed = [] := by simpa [okPiG] using ho
    cases fuel with
    | zero => exact ⟨hr, NoPanic.normal h⟩
    | succ fuel => exact ⟨fun _ => NoPanic.normal h, by rw [hr]; simp⟩
  | cons x l ih =>
    obtain ⟨i, t⟩ := x
    intro listed a w fuel hf ho hc hT h
    obtain ⟨fuel, rfl⟩ : ∃ f, fuel = f + 1 := ⟨fuel - 1, by simp at hf; omega⟩
    have hf' : l.length ≤ fuel := by simpa using hf
    have mem : i ∈ Region.ready .any ops listed := by
      match t with
      | 0 => simp [okPiG] at ho; exact ho.1.1.1.2
      | 1 => simp [okPiG] at ho; exact ho.1.1.2
      | 2 => simp [okPiG] at ho; rw [ho.1]; simp
      | _ + 3 => simp [okPiG] at ho; rw [ho.1.1]; simp
    obtain ⟨hun, o, hi, _⟩ := mem_ready.1 mem
    have hc' := clo_set hc mem
    have e : opsPiG ops ((i, t) :: l) = (t, o) :: opsPiG ops l := by simp [opsPiG, hi]
    rw [e] at h
    match t with
    | 0 =>
      simp only [okPiG, Bool.and_eq_true, decide_eq_true_eq] at ho
      obtain ⟨⟨⟨⟨hfr, hre⟩, hne⟩, hrc⟩, hok⟩ := ho
      have hT' : (listed.setIfInBounds i true).getD s1 false = false → T w := fun hh => hT (by rwa [getD_set_ne false hne] at hh)
      unfold wpPiG at h
      have hY : ∀ listed w, Clo ops listed → listed.getD i false = false → (listed.getD s1 false = false → T w) → T w := fun L W hcL hiL hTL => by
        refine hTL ?_
        cases hL : L.getD s1 false with
        | false => rfl
        | true => rw [clo_reaches hcL _ _ _ hrc hL] at hiL; cases hiL
      rcases h with ⟨hw, v, hy, h⟩ | ⟨hw, h⟩
      · exact wpAnyG_first (Y := T) hi (Region.noSelect_spec hs) (fun _ _ _ k => k) hne hY fuel listed a w hc (Region.free_spec hi hfr) mem (.inl ⟨hw, hy⟩) hT (ih _ _ _ _ hf' hok hc' hT' h)
      · exact wpAnyG_first (Y := T) hi (Region.noSelect_spec hs) (fun _ _ _ k => k) hne hY fuel listed a w hc (Region.free_spec hi hfr) mem (.inr ⟨hw, rfl⟩) hT (ih _ _ _ _ hf' hok hc' hT' h)
    | 1 =>
      simp only [okPiG, Bool.and_eq_true, decide_eq_true_eq] at ho
      obtain ⟨⟨⟨hfr, hre⟩, hne⟩, hok⟩ := ho
      have hT' : (listed.setIfInBounds i true).getD s1 false = false → T w := fun hh => hT (by rwa [getD_set_ne false hne] at hh)
      unfold wpPiG at h
      rcases h with ⟨hw, v, hy, h⟩ | ⟨hw, h⟩
      · exact wpAnyG_first (Y := fun _ => True) hi (Region.noSelect_spec hs) (fun _ _ _ k => k) hne (fun _ _ _ _ _ => trivial) fuel listed a w hc (Region.free_spec hi hfr) mem (.inl ⟨hw, fun W _ => hy W⟩) hT (ih _ _ _ _ hf' hok hc' hT' h)
      · exact wpAnyG_first (Y := fun _ => True) hi (Region.noSelect_spec hs) (fun _ _ _ k => k) hne (fun _ _ _ _ _ => trivial) fuel listed a w hc (Region.free_spec hi hfr) mem (.inr ⟨hw, rfl⟩) hT (ih _ _ _ _ hf' hok hc' hT' h)
    | 2 =>
      simp only [okPiG, Bool.and_eq_true, decide_eq_true_eq] at ho
      refine runG hi ho.1 ?_
      unfold wpPiG at h
      refine wpList_imp (fun E a' w' q => ?_) h
      cases E <;> first | exact ⟨fun _ => q.1, ih _ _ _ _ hf' ho.2 hc' (fun _ => q.1) q.2⟩ | exact q
    | _ + 3 =>
      simp only [okPiG, Bool.and_eq_true, decide_eq_true_eq] at ho
      refine runG hi ho.1.1 ?_
      unfold wpPiG at h
      refine wpList_imp (fun E a' w' q => ?_) h
      have hT' : (listed.setIfInBounds i true).getD s1 false = false → T w' := fun hh => by rw [ho.1.2] at hh; cases hh
      cases E <;> first | exact ⟨hT', ih _ _ _ _ hf' ho.2 hc' hT' q⟩ | exact q

/-- A region that draws its order, by a schedule; T holds till number s1 comes up. -/
theorem region_pig {id : Nat} {a : Act} {w : World} (T : World → Prop) (s1 : Nat) (l : List (Nat × Nat)) (hm : P.follows .mixedOrders = true) (ho : (Region.noSelect ops && decide (l.length ≤ ops.size) && okPiG ops s1 l (Array.replicate ops.size false)) = true)
    (hT : T w.drew) (h : wpPiG P ops Q T (opsPiG ops l) a w.drew) : (Code.region id ops true).wp P Q a w := by
  simp only [Bool.and_eq_true, decide_eq_true_eq] at ho
  obtain ⟨⟨h1, h2⟩, h4⟩ := ho
  exact wp_region_noPanic (wp_region_any hm (wpAny_of_G _ _ _ _ (pig_sound h1 l _ _ _ _ h2 h4 (clo_start ops ops.size) (fun _ => hT) h)))
theorem pig_take {o : Oper} {r : List (Nat × Oper)} {a : Act} {w : World} {v : Value} (hw : Region.wanted o (yielded ops a.tmps) = true) (hy : ∀ W, T W → (execOp a.eval o).run P W = .ok (.value v) W)
    (h : wpPiG P ops Q T r (a.put o.dst v) w) : wpPiG P ops Q T ((0, o) :: r) a w := .inl ⟨hw, v, hy, h⟩
theorem pig_any {o : Oper} {r : List (Nat × Oper)} {a : Act} {w : World} {v : Value} (hw : Region.wanted o (yielded ops a.tmps) = true) (hy : ∀ W, (execOp a.eval o).run P W = .ok (.value v) W)
    (h : wpPiG P ops Q T r (a.put o.dst v) w) : wpPiG P ops Q T ((1, o) :: r) a w := .inl ⟨hw, v, hy, h⟩
theorem pig_skip {o : Oper} {r : List (Nat × Oper)} {a : Act} {w : World} (hw : Region.wanted o (yielded ops a.tmps) = false)
    (h : wpPiG P ops Q T r (a.put o.dst undef) w) : wpPiG P ops Q T ((0, o) :: r) a w := .inr ⟨hw, h⟩
theorem pig_skip1 {o : Oper} {r : List (Nat × Oper)} {a : Act} {w : World} (hw : Region.wanted o (yielded ops a.tmps) = false)
    (h : wpPiG P ops Q T r (a.put o.dst undef) w) : wpPiG P ops Q T ((1, o) :: r) a w := .inr ⟨hw, h⟩
theorem pig_run {o : Oper} {r : List (Nat × Oper)} {a : Act} {w : World} (h : wpList P ops (fun e a' w' => match e with
      | .normal => T w' ∧ wpPiG P ops Q T r a' w'
      | .panic _ => False
      | e => Q e a' w') [o] a w) : wpPiG P ops Q T ((2, o) :: r) a w := h
theorem pig_late {o : Oper} {r : List (Nat × Oper)} {a : Act} {w : World} (h : wpList P ops (fun e a' w' => match e with
      | .normal => wpPiG P ops Q T r a' w'
      | .panic _ => False
      | e => Q e a' w') [o] a w) : wpPiG P ops Q T ((3, o) :: r) a w := h
theorem pig_done {a : Act} {w : World} (h : Q .normal a w) : wpPiG P ops Q T [] a w := h
end
end Go.Proofs.YtjedpjfmlaganaaDoor
