/-
  What becomes of write-ids, in plain words: states, one record more, all records, where the first open one is.
-/
import Derived.Lib.Hide
namespace Go.Proofs.Ytocpeiocgppkfaa.tx

def opens (l : List Int) : Nat := l.count 1
/-- What one record more makes of some states, and whether it may be. -/
def next (l : List Int) (op id : Int) : List Int × Int :=
  if op = 1 then
    if id ≠ (l.length : Int) + 1 then ([], 32) else if 8 ≤ opens l then ([], 3) else (l ++ [1], 0)
  else if op = 2 ∨ op = 3 then
    if 1 ≤ id ∧ id ≤ l.length ∧ l[(id - 1).toNat]? = some 1 then (l.set (id - 1).toNat op, 0) else ([], 32)
  else ([], 1)
def step (s : Option (List Int)) (r : Int × Int) : Option (List Int) := s.bind fun s => if (next s r.1 r.2).2 = 0 then some (next s r.1 r.2).1 else none
/-- What records come to. -/
def run (l : List (Int × Int)) : Option (List Int) := l.foldl step (some [])
def res (l : List (Int × Int)) : List Int := (run l).getD []
def err (l : List (Int × Int)) : Int := if (run l).isNone then 2 else 0

theorem run_nil : run [] = some [] := rfl
theorem run_succ {l : List (Int × Int)} {k : Nat} {r : Int × Int} (h : l[k]? = some r) : run (l.take (k + 1)) = step (run (l.take k)) r := by
  unfold run
  rw [List.take_add_one, h, List.foldl_append]
  rfl
theorem foldl_none : ∀ l : List (Int × Int), l.foldl step none = none
  | [] => rfl
  | _ :: l => foldl_none l
theorem run_none {l : List (Int × Int)} {k : Nat} (h : run (l.take k) = none) : run l = none := by
  rw [← List.take_append_drop k l]
  unfold run at h ⊢
  rw [List.foldl_append, h, foldl_none]
theorem run_step_some {l : List (Int × Int)} {k : Nat} {op id : Int} {s : List Int} (h : l[k]? = some (op, id)) (hs : run (l.take k) = some s) (he : (next s op id).2 = 0) : run (l.take (k + 1)) = some (next s op id).1 := by
  rw [run_succ h, hs]
  simp [step, he]
theorem run_step_none {l : List (Int × Int)} {k : Nat} {op id : Int} {s : List Int} (h : l[k]? = some (op, id)) (hs : run (l.take k) = some s) (he : (next s op id).2 ≠ 0) : run l = none := by
  refine run_none (k := k + 1) ?_
  rw [run_succ h, hs]
  simp [step, he]
theorem res_some {l : List (Int × Int)} {s : List Int} (h : run l = some s) : res l = s ∧ err l = 0 := by simp [res, err, h]
theorem res_none {l : List (Int × Int)} (h : run l = none) : res l = [] ∧ err l = 2 := by simp [res, err, h]

theorem next_begin_bad {l : List Int} {id : Int} (h : id ≠ (l.length : Int) + 1) : next l 1 id = ([], 32) := by
  unfold next; rw [if_pos rfl, if_pos h]
theorem next_begin_big {l : List Int} {id : Int} (h : id = (l.length : Int) + 1) (h8 : 8 ≤ opens l) : next l 1 id = ([], 3) := by
  unfold next; rw [if_pos rfl, if_neg (by omega), if_pos h8]
theorem next_begin {l : List Int} {id : Int} (h : id = (l.length : Int) + 1) (h8 : opens l < 8) : next l 1 id = (l ++ [1], 0) := by
  unfold next; rw [if_pos rfl, if_neg (by omega), if_neg (by omega)]
theorem next_end_bad {l : List Int} {op id : Int} (ho : op = 2 ∨ op = 3) (h : ¬ (1 ≤ id ∧ id ≤ l.length ∧ l[(id - 1).toNat]? = some 1)) : next l op id = ([], 32) := by
  unfold next; rw [if_neg (by omega), if_pos ho, if_neg h]
theorem next_end {l : List Int} {op id : Int} {k : Nat} (ho : op = 2 ∨ op = 3) (hk : id = (k : Int) + 1) (h : l[k]? = some 1) : next l op id = (l.set k op, 0) := by
  have hl := (List.getElem?_eq_some_iff.1 h).1
  have e : (id - 1).toNat = k := by omega
  unfold next; rw [if_neg (by omega), if_pos ho, e, if_pos ⟨by omega, by omega, h⟩]
theorem next_none {l : List Int} {op id : Int} (h : ¬ (op = 1 ∨ op = 2 ∨ op = 3)) : next l op id = ([], 1) := by
  unfold next; rw [if_neg (by omega), if_neg (by omega)]

theorem next_len (l : List Int) (op id : Int) : (next l op id).1.length ≤ l.length + 1 := by
  unfold next
  split
  · split
    · simp
    · split <;> simp
  · split
    · split <;> simp
    · simp
theorem run_len (l : List (Int × Int)) : ∀ k, k ≤ l.length → ∀ s, run (l.take k) = some s → s.length ≤ k := by
  intro k
  induction k with
  | zero => intro _ s h; simp [run] at h; subst h; simp
  | succ k ih =>
    intro hk s h
    have hx : l[k]? = some (l[k]'(by omega)) := List.getElem?_eq_getElem _
    rw [run_succ hx] at h
    cases hr : run (l.take k) with
    | none => rw [hr] at h; simp [step] at h
    | some s0 =>
      rw [hr] at h
      have h0 := ih (by omega) s0 hr
      simp only [step, Option.bind_some] at h
      split at h
      · injection h with h
        subst h
        have := next_len s0 (l[k]'(by omega)).1 (l[k]'(by omega)).2
        omega
      · cases h

theorem res_len (l : List (Int × Int)) : (res l).length ≤ l.length := by
  cases h : run l with
  | none => rw [(res_none h).1]; simp
  | some s =>
    rw [(res_some h).1]
    exact run_len l l.length (Nat.le_refl _) s (by rw [List.take_length]; exact h)
theorem opens_take (l : List Int) (k : Nat) (x : Int) (h : l[k]? = some x) : opens (l.take (k + 1)) = opens (l.take k) + (if x = 1 then 1 else 0) := by
  unfold opens
  rw [List.take_add_one, h, List.count_append]
  simp [List.count_cons]
theorem opens_le (l : List Int) : opens l ≤ l.length := List.count_le_length

/-- Up to where nothing is open. -/
def limit (l : List Int) : Nat := l.idxOf 1
theorem limit_at {l : List Int} {k : Nat} (h : (1 : Int) ∉ l.take k) (hk : l[k]? = some 1) : limit l = k := by
  obtain ⟨hl, hx⟩ := List.getElem?_eq_some_iff.1 hk
  have e : l = l.take k ++ (1 :: l.drop (k + 1)) := by rw [← hx, ← List.drop_eq_getElem_cons hl, List.take_append_drop]
  unfold limit
  rw [e, List.idxOf_append, if_neg h, List.idxOf_cons_self, List.length_take]
  omega
theorem limit_none {l : List Int} (h : (1 : Int) ∉ l) : limit l = l.length := List.idxOf_eq_length h

theorem limit_facts (l : List Int) : limit l ≤ l.length ∧ (limit l < l.length → l[limit l]? = some 1) := by
  unfold limit
  refine ⟨List.idxOf_le_length, fun h => ?_⟩
  have := List.getElem_idxOf h
  rw [List.getElem?_eq_getElem h, this]

/-- What stays, and what comes: behind one record that may be. -/
theorem next_stays {l : List Int} {op id : Int} (h0 : (next l op id).2 = 0) : l.length ≤ (next l op id).1.length ∧ (next l op id).1.length ≤ l.length + 1 ∧
    (∀ (k : Nat) (x : Int), l[k]? = some x → x ≠ 1 → (next l op id).1[k]? = some x) ∧ (opens l ≤ 8 → opens (next l op id).1 ≤ 8) := by
  revert h0
  unfold next
  split
  · split
    · intro h; cases h
    · split
      · intro h; cases h
      · rename_i h8
        intro _
        refine ⟨by simp, by simp, fun k x hk _ => ?_, fun _ => ?_⟩
        · rw [List.getElem?_append_left (List.getElem?_eq_some_iff.1 hk).1]; exact hk
        · unfold opens at *
          simp [List.count_append] at *
          omega
  · split
    · rename_i ho
      split
      · rename_i hi
        obtain ⟨h1, h2, h3⟩ := hi
        intro _
        refine ⟨by simp, by simp, fun k x hk hx => ?_, fun h8 => ?_⟩
        · rw [List.getElem?_set]
          split
          · rename_i e
            rw [e, hk] at h3
            injection h3 with h3
            exact absurd h3 hx
          · exact hk
        · refine Nat.le_trans ?_ h8
          unfold opens
          rw [List.count_set (by have := (List.getElem?_eq_some_iff.1 h3).1; exact this)]
          have : ((op : Int) == 1) = false := by simp; omega
          rw [this]
          simp
      · intro h; cases h
    · intro h; cases h
end Go.Proofs.Ytocpeiocgppkfaa.tx
