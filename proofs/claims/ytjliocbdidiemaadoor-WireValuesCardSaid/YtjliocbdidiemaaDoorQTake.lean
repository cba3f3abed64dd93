/-
  Fields with tags, in plain words: how they are taken, and that what was laid down is taken as it was.
-/
import Derived.Test.YtjliocbdidiemaaDoorQMath
namespace Go.Proofs.YtjliocbdidiemaaDoor.wi

/-- The field that bytes begin with. -/
def one (l : List Nat) : Option (Fld × List Nat) :=
  (var.vtake l).bind fun p => (var.vtake p.2).bind fun q =>
    if 1 ≤ p.1 / 8 ∧ p.1 / 8 ≤ 100 then
      if p.1 % 8 = 0 then some (⟨(p.1 / 8 : Nat), false, q.1, []⟩, q.2)
      else if p.1 % 8 = 2 ∧ q.1 ≤ q.2.length then some (⟨(p.1 / 8 : Nat), true, 0, q.2.take q.1⟩, q.2.drop q.1)
      else none
    else none
theorem one_none1 {l : List Nat} (h : var.vtake l = none) : one l = none := by simp [one, h]
theorem one_none2 {l r : List Nat} {k : Nat} (h : var.vtake l = some (k, r)) (h2 : var.vtake r = none) : one l = none := by simp [one, h, h2]
theorem one_bad {l r s : List Nat} {k n : Nat} (h : var.vtake l = some (k, r)) (h2 : var.vtake r = some (n, s)) (hb : ¬ (1 ≤ k / 8 ∧ k / 8 ≤ 100) ∨ (k % 8 ≠ 0 ∧ ¬ (k % 8 = 2 ∧ n ≤ s.length))) : one l = none := by
  simp only [one, h, h2, Option.bind_some]
  split
  · rename_i h3
    rcases hb with hb | ⟨hb1, hb2⟩
    · exact absurd h3 hb
    · rw [if_neg hb1, if_neg hb2]
  · rfl
theorem one_num {l r s : List Nat} {k n : Nat} (h : var.vtake l = some (k, r)) (h2 : var.vtake r = some (n, s)) (ht : 1 ≤ k / 8 ∧ k / 8 ≤ 100) (h0 : k % 8 = 0) : one l = some (⟨(k / 8 : Nat), false, n, []⟩, s) := by
  simp only [one, h, h2, Option.bind_some]
  rw [if_pos ht, if_pos h0]
theorem one_bytes {l r s : List Nat} {k n : Nat} (h : var.vtake l = some (k, r)) (h2 : var.vtake r = some (n, s)) (ht : 1 ≤ k / 8 ∧ k / 8 ≤ 100) (h0 : k % 8 = 2) (hn : n ≤ s.length) : one l = some (⟨(k / 8 : Nat), true, 0, s.take n⟩, s.drop n) := by
  simp only [one, h, h2, Option.bind_some]
  rw [if_pos ht, if_neg (by omega), if_pos ⟨h0, hn⟩]
theorem one_lt {l r : List Nat} {f : Fld} (h : one l = some (f, r)) : r.length < l.length := by
  cases h1 : var.vtake l with
  | none => rw [one_none1 h1] at h; cases h
  | some p =>
    obtain ⟨k, m⟩ := p
    cases h2 : var.vtake m with
    | none => rw [one_none2 h1 h2] at h; cases h
    | some q =>
      obtain ⟨n, s⟩ := q
      obtain ⟨a, rfl, ha⟩ := var.vtake_suffix h1
      obtain ⟨b, rfl, hb⟩ := var.vtake_suffix h2
      simp only [one, h1, h2, Option.bind_some] at h
      split at h
      · split at h
        · simp at h
          obtain ⟨-, rfl⟩ := h
          simp; omega
        · split at h
          · simp at h
            obtain ⟨-, rfl⟩ := h
            simp; omega
          · cases h
      · cases h
theorem ptake_append (f : Nat) : ∀ (i a : Nat) (l : List Nat) (x : Nat) (r y : List Nat), var.ptake f i a l = some (x, r) → var.ptake f i a (l ++ y) = some (x, r ++ y) := by
  induction f with
  | zero => intro i a l x r y h; cases h
  | succ f ih =>
    intro i a l x r y h
    rcases l with _ | ⟨c, l⟩
    · cases h
    · simp only [var.ptake, List.cons_append] at h ⊢
      split at h
      · rename_i hc
        rw [if_pos hc]
        exact ih _ _ _ _ _ _ h
      · rename_i hc
        rw [if_neg hc]
        split at h
        · cases h
        · rename_i hc2
          rw [if_neg hc2]
          simp at h ⊢
          obtain ⟨h1, rfl⟩ := h
          exact ⟨h1, rfl⟩
theorem vtake_append {l r : List Nat} {x : Nat} (h : var.vtake l = some (x, r)) (y : List Nat) : var.vtake (l ++ y) = some (x, r ++ y) := ptake_append _ _ _ _ _ _ _ h
theorem one_append {l r : List Nat} {f : Fld} (h : one l = some (f, r)) (y : List Nat) : one (l ++ y) = some (f, r ++ y) := by
  cases h1 : var.vtake l with
  | none => rw [one_none1 h1] at h; cases h
  | some p =>
    obtain ⟨k, m⟩ := p
    cases h2 : var.vtake m with
    | none => rw [one_none2 h1 h2] at h; cases h
    | some q =>
      obtain ⟨n, s⟩ := q
      have h3 := vtake_append h1 y
      have h4 := vtake_append h2 y
      simp only [one, h1, h2, Option.bind_some] at h
      split at h
      · rename_i ht
        split at h
        · rename_i h0
          simp at h
          obtain ⟨rfl, rfl⟩ := h
          exact one_num h3 h4 ht h0
        · split at h
          · rename_i hk
            simp at h
            obtain ⟨rfl, rfl⟩ := h
            rw [one_bytes h3 h4 ht hk.1 (by rw [List.length_append]; omega), List.take_append_of_le_length hk.2, List.drop_append_of_le_length hk.2]
            simp
          · cases h
      · cases h

/-- How bytes are taken as fields, or refused: by some fuel. -/
def parse : Nat → List Nat → Option (List Fld)
  | _, [] => some []
  | 0, _ :: _ => none
  | n + 1, x :: l => (one (x :: l)).bind fun p => (parse n p.2).map (p.1 :: ·)
theorem parse_succ (n x : Nat) (l : List Nat) : parse (n + 1) (x :: l) = (one (x :: l)).bind fun p => (parse n p.2).map (p.1 :: ·) := rfl
theorem parse_fuel : ∀ (n m : Nat) (l : List Nat), l.length ≤ n → l.length ≤ m → parse n l = parse m l
  | n, m, [], _, _ => by cases n <;> cases m <;> rfl
  | 0, m, x :: l, h, _ => by simp at h
  | n, 0, x :: l, _, h => by simp at h
  | n + 1, m + 1, x :: l, h, k => by
    unfold parse
    cases h1 : one (x :: l) with
    | none => rfl
    | some p =>
      obtain ⟨f, r⟩ := p
      have := one_lt h1
      simp only [Option.bind_some]
      rw [parse_fuel n m r (by simp at this h; omega) (by simp at this k; omega)]
def take (l : List Nat) : Option (List Fld) := parse l.length l
theorem take_nil : take [] = some [] := rfl
theorem take_some {l r : List Nat} {f : Fld} (h : one l = some (f, r)) : take l = (take r).map (f :: ·) := by
  have hlt := one_lt h
  unfold take
  rcases l with _ | ⟨x, l⟩
  · simp at hlt
  · show parse (l.length + 1) (x :: l) = _
    rw [parse_succ, h]
    simp only [Option.bind_some]
    rw [parse_fuel l.length r.length r (by simp at hlt; omega) (Nat.le_refl _)]
theorem take_none {l : List Nat} (hl : l ≠ []) (h : one l = none) : take l = none := by
  rcases l with _ | ⟨x, l⟩
  · exact absurd rfl hl
  · show parse (l.length + 1) (x :: l) = _
    rw [parse_succ, h]
    rfl
/-- A field whose other half is nothing. -/
def Norm (f : Fld) : Prop := (f.isB = true → f.n = 0) ∧ (f.isB = false → f.b = [])
theorem one_enc {f : Fld} (h : Fits f) (h1 : 1 ≤ f.tag ∧ f.tag ≤ 100) (hn : Norm f) (r : List Nat) : one (encF f ++ r) = some (f, r) := by
  obtain ⟨tag, isB, n, b⟩ := f
  obtain ⟨T, rfl⟩ : ∃ T : Nat, tag = (T : Int) := ⟨tag.toNat, by simp only at h1; omega⟩
  simp only at h1
  cases isB
  · obtain rfl : b = [] := hn.2 rfl
    rw [encF_num rfl]
    simp only [Int.toNat_natCast, List.append_assoc]
    have a1 := var.vtake_vput (8 * T) (by omega) (var.vput n ++ r)
    have a2 := var.vtake_vput n h.1 r
    rw [one_num a1 a2 (by omega) (by omega)]
    have : 8 * T / 8 = T := by omega
    rw [this]
  · obtain rfl : n = 0 := hn.1 rfl
    rw [encF_bytes rfl]
    simp only [Int.toNat_natCast, List.append_assoc]
    have hb := h.2.2
    simp only at hb
    have a1 := var.vtake_vput (8 * T + 2) (by omega) (var.vput b.length ++ (b ++ r))
    have a2 := var.vtake_vput b.length (by omega) (b ++ r)
    rw [one_bytes a1 a2 (by omega) (by omega) (by simp)]
    have : (8 * T + 2) / 8 = T := by omega
    rw [this]
    simp
theorem take_enc : ∀ (fs : List Fld), (∀ f ∈ fs, Fits f ∧ (1 ≤ f.tag ∧ f.tag ≤ 100) ∧ Norm f) → take (enc fs) = some fs
  | [], _ => rfl
  | f :: fs, h => by
    obtain ⟨h1, h2, h3⟩ := h f (by simp)
    have e : enc (f :: fs) = encF f ++ enc fs := rfl
    rw [e, take_some (one_enc h1 h2 h3 _), take_enc fs (fun g hg => h g (by simp [hg]))]
    rfl
theorem take_append_aux : ∀ (n : Nat) (x : List Nat) (gs : List Fld), x.length ≤ n → take x = some gs → ∀ y, take (x ++ y) = (take y).map (gs ++ ·)
  | n, [], gs, _, h, y => by
    rw [take_nil] at h
    injection h with h
    subst h
    simp
  | 0, x :: l, gs, hn, _, _ => by simp at hn
  | n + 1, x :: l, gs, hn, h, y => by
    cases h1 : one (x :: l) with
    | none => rw [take_none (by simp) h1] at h; cases h
    | some p =>
      obtain ⟨f, r⟩ := p
      have hlt := one_lt h1
      rw [take_some h1] at h
      cases h2 : take r with
      | none => rw [h2] at h; cases h
      | some hs =>
        rw [h2] at h
        simp at h
        subst h
        rw [take_some (one_append h1 y), take_append_aux n r hs (by simp at hn hlt; omega) h2 y]
        cases take y <;> simp
theorem take_append {x : List Nat} {gs : List Fld} (h : take x = some gs) (y : List Nat) : take (x ++ y) = (take y).map (gs ++ ·) := take_append_aux x.length x gs (Nat.le_refl _) h y
theorem take_ne {y : List Nat} (hy : y ≠ []) (h : take y = some []) : False := by
  cases h1 : one y with
  | none => rw [take_none hy h1] at h; cases h
  | some p =>
    obtain ⟨f, r⟩ := p
    rw [take_some h1] at h
    cases h2 : take r with
    | none => rw [h2] at h; cases h
    | some hs => rw [h2] at h; simp at h
/-- Bytes that are cut have fewer fields, or are none. -/
theorem take_cut {b : List Nat} {fs gs : List Fld} {k : Nat} (h : take b = some fs) (hk : k < b.length) (hg : take (b.take k) = some gs) : gs.length < fs.length := by
  have h1 := take_append hg (b.drop k)
  rw [List.take_append_drop, h] at h1
  cases h2 : take (b.drop k) with
  | none => rw [h2] at h1; cases h1
  | some hs =>
    rw [h2] at h1
    simp at h1
    subst h1
    have hne : b.drop k ≠ [] := fun e => by have := congrArg List.length e; simp at this; omega
    have : hs ≠ [] := fun e => by subst e; exact take_ne hne h2
    rw [List.length_append]
    have := List.length_pos_iff.2 this
    omega
end Go.Proofs.YtjliocbdidiemaaDoor.wi
