/-
  A region whose order is drawn, with a fact that holds until a first store: segments of a schedule, and where two may come up.
-/
import Derived.Test.YtjedpjfmlaganaaDoorRegionG
namespace Go.Proofs.YtjedpjfmlaganaaDoor
open Go.RowKit
section
variable {P : Program} {ops : Array Oper} {Q : Exit → Act → World → Prop} {T : World → Prop} {s1 : Nat}

/-- What is known where a region stands: who has come up, and T. -/
def At (P : Program) (ops : Array Oper) (Q : Exit → Act → World → Prop) (T : World → Prop) (s1 fuel : Nat) (listed : Array Bool) (a : Act) (w : World) : Prop :=
  Clo ops listed → (listed.getD s1 false = false → T w) → wpAnyG P ops (NoPanic Q) T s1 fuel listed a w
/-- A segment's end. -/
def Seg (P : Program) (ops : Array Oper) (Q : Exit → Act → World → Prop) (T : World → Prop) (s1 fuel : Nat) (listed : Array Bool) : Exit → Act → World → Prop
  | .normal, a, w => At P ops Q T s1 fuel listed a w
  | e, a, w => Q e a w
def okSeg (ops : Array Oper) (s1 : Nat) : List (Nat × Nat) → Array Bool → Bool
  | [], _ => true
  | (i, 0) :: r, listed => Region.free .any ops listed i && (Region.ready .any ops listed).contains i && decide (i ≠ s1) && reaches ops ops.size s1 i && okSeg ops s1 r (listed.setIfInBounds i true)
  | (i, 1) :: r, listed => Region.free .any ops listed i && (Region.ready .any ops listed).contains i && decide (i ≠ s1) && okSeg ops s1 r (listed.setIfInBounds i true)
  | (i, 2) :: r, listed => decide (Region.ready .any ops listed = [i]) && okSeg ops s1 r (listed.setIfInBounds i true)
  | (i, _ + 3) :: r, listed => decide (Region.ready .any ops listed = [i]) && (listed.setIfInBounds i true).getD s1 false && okSeg ops s1 r (listed.setIfInBounds i true)
def after (listed : Array Bool) : List (Nat × Nat) → Array Bool
  | [] => listed
  | (i, _) :: r => after (listed.setIfInBounds i true) r

theorem seg_sound (hs : Region.noSelect ops = true) : ∀ (l : List (Nat × Nat)) (listed : Array Bool) (a : Act) (w : World) (fuel : Nat), okSeg ops s1 l listed = true → Clo ops listed →
    (listed.getD s1 false = false → T w) → wpPiG P ops (Seg P ops Q T s1 fuel (after listed l)) T (opsPiG ops l) a w → wpAnyG P ops (NoPanic Q) T s1 (fuel + l.length) listed a w := by
  intro l
  induction l with
  | nil => intro listed a w fuel _ hc hT h; exact h hc hT
  | cons x l ih =>
    obtain ⟨i, t⟩ := x
    intro listed a w fuel ho hc hT h
    have hfl : fuel + ((i, t) :: l).length = (fuel + l.length) + 1 := by simp; omega
    rw [hfl]
    have mem : i ∈ Region.ready .any ops listed := by
      match t with
      | 0 => simp [okSeg] at ho; exact ho.1.1.1.2
      | 1 => simp [okSeg] at ho; exact ho.1.1.2
      | 2 => simp [okSeg] at ho; rw [ho.1]; simp
      | _ + 3 => simp [okSeg] at ho; rw [ho.1.1]; simp
    obtain ⟨hun, o, hi, _⟩ := mem_ready.1 mem
    have hc' := clo_set hc mem
    have e : opsPiG ops ((i, t) :: l) = (t, o) :: opsPiG ops l := by simp [opsPiG, hi]
    rw [e] at h
    have ha : after listed ((i, t) :: l) = after (listed.setIfInBounds i true) l := rfl
    rw [ha] at h
    match t with
    | 0 =>
      simp only [okSeg, Bool.and_eq_true, decide_eq_true_eq] at ho
      obtain ⟨⟨⟨⟨hfr, hre⟩, hne⟩, hrc⟩, hok⟩ := ho
      have hT' : (listed.setIfInBounds i true).getD s1 false = false → T w := fun hh => hT (by rwa [getD_set_ne false hne] at hh)
      unfold wpPiG at h
      have hY : ∀ listed w, Clo ops listed → listed.getD i false = false → (listed.getD s1 false = false → T w) → T w := fun L W hcL hiL hTL => by
        refine hTL ?_
        cases hL : L.getD s1 false with
        | false => rfl
        | true => rw [clo_reaches hcL _ _ _ hrc hL] at hiL; cases hiL
      rcases h with ⟨hw, v, hy, h⟩ | ⟨hw, h⟩
      · exact wpAnyG_first (Y := T) hi (Region.noSelect_spec hs) (fun _ _ _ k => k) hne hY _ listed a w hc (Region.free_spec hi hfr) mem (.inl ⟨hw, hy⟩) hT (ih _ _ _ _ hok hc' hT' h)
      · exact wpAnyG_first (Y := T) hi (Region.noSelect_spec hs) (fun _ _ _ k => k) hne hY _ listed a w hc (Region.free_spec hi hfr) mem (.inr ⟨hw, rfl⟩) hT (ih _ _ _ _ hok hc' hT' h)
    | 1 =>
      simp only [okSeg, Bool.and_eq_true, decide_eq_true_eq] at ho
      obtain ⟨⟨⟨hfr, hre⟩, hne⟩, hok⟩ := ho
      have hT' : (listed.setIfInBounds i true).getD s1 false = false → T w := fun hh => hT (by rwa [getD_set_ne false hne] at hh)
      unfold wpPiG at h
      rcases h with ⟨hw, v, hy, h⟩ | ⟨hw, h⟩
      · exact wpAnyG_first (Y := fun _ => True) hi (Region.noSelect_spec hs) (fun _ _ _ k => k) hne (fun _ _ _ _ _ => trivial) _ listed a w hc (Region.free_spec hi hfr) mem (.inl ⟨hw, fun W _ => hy W⟩) hT (ih _ _ _ _ hok hc' hT' h)
      · exact wpAnyG_first (Y := fun _ => True) hi (Region.noSelect_spec hs) (fun _ _ _ k => k) hne (fun _ _ _ _ _ => trivial) _ listed a w hc (Region.free_spec hi hfr) mem (.inr ⟨hw, rfl⟩) hT (ih _ _ _ _ hok hc' hT' h)
    | 2 =>
      simp only [okSeg, Bool.and_eq_true, decide_eq_true_eq] at ho
      refine runG hi ho.1 ?_
      unfold wpPiG at h
      refine wpList_imp (fun E a' w' q => ?_) h
      cases E <;> first | exact ⟨fun _ => q.1, ih _ _ _ _ ho.2 hc' (fun _ => q.1) q.2⟩ | exact q
    | _ + 3 =>
      simp only [okSeg, Bool.and_eq_true, decide_eq_true_eq] at ho
      refine runG hi ho.1.1 ?_
      unfold wpPiG at h
      refine wpList_imp (fun E a' w' q => ?_) h
      have hT' : (listed.setIfInBounds i true).getD s1 false = false → T w' := fun hh => by rw [ho.1.2] at hh; cases hh
      cases E <;> first | exact ⟨hT', ih _ _ _ _ ho.2 hc' hT' q⟩ | exact q

/-- A region that draws its order: its beginning. -/
theorem region_at {id : Nat} {a : Act} {w : World} (T : World → Prop) (s1 : Nat) (hm : P.follows .mixedOrders = true) (hT : T w.drew) (h : At P ops Q T s1 ops.size (Array.replicate ops.size false) a w.drew) : (Code.region id ops true).wp P Q a w :=
  wp_region_noPanic (wp_region_any hm (wpAny_of_G _ _ _ _ (h (clo_start ops ops.size) (fun _ => hT))))
theorem at_seg {listed : Array Bool} {a : Act} {w : World} {n : Nat} (l : List (Nat × Nat)) (fuel : Nat) (hn : n = fuel + l.length) (ho : (Region.noSelect ops && okSeg ops s1 l listed) = true)
    (h : wpPiG P ops (Seg P ops Q T s1 fuel (after listed l)) T (opsPiG ops l) a w) : At P ops Q T s1 n listed a w := fun hc hT => by
  rw [Bool.and_eq_true] at ho
  rw [hn]
  exact seg_sound ho.1 l listed a w fuel ho.2 hc hT h
/-- Two may come up. -/
theorem at_two {i j : Nat} {o p : Oper} {fuel : Nat} {listed : Array Bool} {a : Act} {w : World} (hi : ops[i]? = some o) (hj : ops[j]? = some p) (hr : Region.ready .any ops listed = [i, j])
    (h : wpList P ops (fun e a' w' => match e with
      | .normal => T w' ∧ At P ops Q T s1 fuel (listed.setIfInBounds i true) a' w'
      | .panic _ => False
      | e => Q e a' w') [o] a w)
    (k : wpList P ops (fun e a' w' => match e with
      | .normal => T w' ∧ At P ops Q T s1 fuel (listed.setIfInBounds j true) a' w'
      | .panic _ => False
      | e => Q e a' w') [p] a w) : At P ops Q T s1 (fuel + 1) listed a w := fun hc hT => by
  have key : ∀ {m : Nat} {x : Oper}, ops[m]? = some x → m ∈ Region.ready .any ops listed → wpList P ops (fun e a' w' => match e with
      | .normal => T w' ∧ At P ops Q T s1 fuel (listed.setIfInBounds m true) a' w'
      | .panic _ => False
      | e => Q e a' w') [x] a w → wpOp P ops (NoPanic Q) m (fun a' w' => ((listed.setIfInBounds m true).getD s1 false = false → T w') ∧ wpAnyG P ops (NoPanic Q) T s1 fuel (listed.setIfInBounds m true) a' w') a w := by
    intro m x hm hmr h
    have hc' := clo_set hc hmr
    unfold wpOp
    rw [hm]
    simp only
    have fwd : ∀ a' w', (T w' ∧ At P ops Q T s1 fuel (listed.setIfInBounds m true) a' w') → ((listed.setIfInBounds m true).getD s1 false = false → T w') ∧ wpAnyG P ops (NoPanic Q) T s1 fuel (listed.setIfInBounds m true) a' w' := fun a' w' q => ⟨fun _ => q.1, q.2 hc' (fun _ => q.1)⟩
    unfold wpList at h
    split
    · rename_i hw
      rw [if_pos hw] at h
      rcases h with h | ⟨h1, a2, w2, h2⟩
      · refine .inl ?_
        unfold Oper.wp at h ⊢
        generalize (execOp a.eval x).run P w = r at h ⊢
        cases r with
        | ok n w' =>
          cases n <;> simp only [Oper.upon] at h ⊢
          case value u => exact fwd _ _ h
          case skip => exact fwd _ _ h
          case defer d => exact fwd _ _ h
          case enter f args =>
            refine Calls.mono h fun e w'' he => ?_
            cases e with
            | returned u => exact fwd _ _ he
            | panicked c => exact he
            | outgrown => obtain ⟨a3, w3, h3⟩ := he; exact ⟨a3, w3, h3⟩
          case row row args => exact Rows.mono h fun u w'' he => fwd _ _ he
        | halt x w' =>
          cases x <;> simp only [Oper.upon] at h ⊢
      · exact .inr ⟨h1, a2, w2, h2⟩
    · rename_i hw
      rw [if_neg hw] at h
      exact fwd _ _ h
  refine ⟨fun h0 => (by rw [hr] at h0; cases h0), fun m hm => ?_⟩
  have hm' := hm
  rw [hr] at hm
  rcases List.mem_cons.1 hm with rfl | hm
  · exact key hi hm' h
  · obtain rfl : m = j := by simpa using hm
    exact key hj hm' k
theorem at_done {listed : Array Bool} {a : Act} {w : World} (hr : Region.ready .any ops listed = []) (h : Q .normal a w) (fuel : Nat) : At P ops Q T s1 fuel listed a w := fun _ _ => by
  cases fuel with
  | zero => exact ⟨hr, NoPanic.normal h⟩
  | succ fuel => exact ⟨fun _ => NoPanic.normal h, by rw [hr]; simp⟩
end
end Go.Proofs.YtjedpjfmlaganaaDoor
