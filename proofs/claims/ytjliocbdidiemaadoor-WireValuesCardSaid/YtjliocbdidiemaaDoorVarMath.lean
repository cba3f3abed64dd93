/-
  Plain arithmetic of numbers in groups of seven bits: what is put is taken as it was, what is cut is none, and two ways of taking are one. No program in sight.
-/
namespace Go.Proofs.YtjliocbdidiemaaDoor.var
/-- The bytes of a number. -/
def vput (x : Nat) : List Nat := if h : x < 128 then [x] else (x % 128 + 128) :: vput (x / 128)
  termination_by x
  decreasing_by omega
theorem vput_small {x : Nat} (h : x < 128) : vput x = [x] := by rw [vput]; simp [h]
theorem vput_big {x : Nat} (h : 128 ≤ x) : vput x = (x % 128 + 128) :: vput (x / 128) := by rw [vput]; simp [show ¬ x < 128 by omega]
theorem vput_ne (x : Nat) : vput x ≠ [] := by
  by_cases h : x < 128
  · rw [vput_small h]; simp
  · rw [vput_big (by omega)]; simp
theorem vput8 (x : Nat) : ∀ c ∈ vput x, c < 256 := by
  induction x using Nat.strongRecOn with
  | _ x ih =>
    by_cases h : x < 128
    · rw [vput_small h]; simp; omega
    · rw [vput_big (by omega)]
      intro c hc
      rcases List.mem_cons.1 hc with rfl | hc
      · omega
      · exact ih (x / 128) (by omega) c hc
/-- What is taken: from the i-th byte on, a number so far. -/
def ptake : Nat → Nat → Nat → List Nat → Option (Nat × List Nat)
  | 0, _, _, _ => none
  | _ + 1, _, _, [] => none
  | f + 1, i, a, c :: r => if 128 ≤ c then ptake f (i + 1) (a + (c - 128) * 128 ^ i) r else if (c = 0 ∧ 0 < i) ∨ (i = 9 ∧ 1 < c) then none else some (a + c * 128 ^ i, r)
def vtake (l : List Nat) : Option (Nat × List Nat) := ptake 10 0 0 l

/-- How many bytes a number below 128^k has. -/
theorem vput_length_le (k : Nat) : ∀ x, x < 128 ^ (k + 1) → (vput x).length ≤ k + 1 := by
  induction k with
  | zero => intro x h; rw [vput_small (by simpa using h)]; simp
  | succ k ih =>
    intro x h
    by_cases hx : x < 128
    · rw [vput_small hx]; simp
    · rw [vput_big (by omega)]
      have : x / 128 < 128 ^ (k + 1) := by
        rw [Nat.div_lt_iff_lt_mul (by omega)]
        rw [Nat.pow_succ] at h
        omega
      have := ih _ this
      simp only [List.length_cons]
      omega
theorem vput_length_mono : ∀ (x y : Nat), x ≤ y → (vput x).length ≤ (vput y).length := by
  intro x
  induction x using Nat.strongRecOn with
  | _ x ih =>
    intro y h
    by_cases hx : x < 128
    · rw [vput_small hx]
      have := vput_ne y
      have : 0 < (vput y).length := List.length_pos_iff.2 this
      show 1 ≤ _
      exact this
    · rw [vput_big (by omega), vput_big (show 128 ≤ y by omega)]
      have := ih (x / 128) (by omega) (y / 128) (by omega)
      simp only [List.length_cons]
      omega
/-- What was put is taken as it was. -/
theorem ptake_vput (f : Nat) : ∀ (i a x : Nat) (r : List Nat), i + f = 10 → x * 128 ^ i < 18446744073709551616 → (0 < i → 0 < x) → ptake f i a (vput x ++ r) = some (a + x * 128 ^ i, r) := by
  induction f with
  | zero =>
    intro i a x r hi hx hp
    obtain rfl : i = 10 := by omega
    have := hp (by omega)
    simp at hx
    omega
  | succ f ih =>
    intro i a x r hi hx hp
    by_cases h : x < 128
    · rw [vput_small h]
      simp only [List.cons_append, List.nil_append, ptake]
      rw [if_neg (by omega), if_neg]
      rintro (⟨h1, h2⟩ | ⟨rfl, h2⟩)
      · have := hp h2; omega
      · simp at hx; omega
    · rw [vput_big (by omega)]
      simp only [List.cons_append, ptake]
      have e : x / 128 * 128 ^ (i + 1) = x / 128 * 128 * 128 ^ i := by rw [Nat.pow_succ, Nat.mul_assoc, Nat.mul_comm (128 ^ i)]
      have hle : x / 128 * 128 * 128 ^ i ≤ x * 128 ^ i := Nat.mul_le_mul_right _ (by omega)
      rw [if_pos (by omega), ih (i + 1) _ (x / 128) r (by omega) (by omega) (by omega)]
      congr 2
      rw [e, Nat.add_sub_cancel, Nat.add_assoc, ← Nat.add_mul]
      congr 2
      omega
theorem vtake_vput (x : Nat) (h : x < 18446744073709551616) (r : List Nat) : vtake (vput x ++ r) = some (x, r) := by
  unfold vtake
  rw [ptake_vput 10 0 0 x r rfl (by simpa using h) (by omega)]
  simp
/-- What is cut is none. -/
theorem ptake_cut (f : Nat) : ∀ (i a x k : Nat), k < (vput x).length → ptake f i a ((vput x).take k) = none := by
  induction f with
  | zero => intros; rfl
  | succ f ih =>
    intro i a x k hk
    rcases k with _ | k
    · rfl
    · by_cases h : x < 128
      · rw [vput_small h] at hk; simp at hk
      · rw [vput_big (by omega)] at hk ⊢
        simp only [List.take_succ_cons, ptake]
        rw [if_pos (by omega)]
        exact ih _ _ _ _ (by simpa using hk)
theorem vtake_cut (x k : Nat) (hk : k < (vput x).length) : vtake ((vput x).take k) = none := ptake_cut _ _ _ _ _ hk
/-- What is left is an end of what there was, and a number fits 64 bits. -/
theorem ptake_suffix (f : Nat) : ∀ (i a : Nat) (l : List Nat) (x : Nat) (r : List Nat), ptake f i a l = some (x, r) → ∃ p, l = p ++ r ∧ 0 < p.length := by
  induction f with
  | zero => intro i a l x r h; cases h
  | succ f ih =>
    intro i a l x r h
    rcases l with _ | ⟨c, l⟩
    · cases h
    · simp only [ptake] at h
      split at h
      · obtain ⟨p, rfl, hp⟩ := ih _ _ _ _ _ h
        exact ⟨c :: p, rfl, by simp⟩
      · split at h
        · cases h
        · simp at h
          exact ⟨[c], by rw [h.2]; rfl, by simp⟩
theorem vtake_suffix {l r : List Nat} {x : Nat} (h : vtake l = some (x, r)) : ∃ p, l = p ++ r ∧ 0 < p.length := ptake_suffix _ _ _ _ _ _ h

/-- Digits of seven bits, the lowest first. -/
def vsum : List Nat → Nat
  | [] => 0
  | c :: r => c % 128 + 128 * vsum r
theorem vsum_lt : ∀ l : List Nat, vsum l < 128 ^ l.length
  | [] => by simp [vsum]
  | c :: r => by
    have := vsum_lt r
    simp only [vsum, List.length_cons, Nat.pow_succ]
    omega
theorem vsum_append : ∀ (l m : List Nat), vsum (l ++ m) = vsum l + 128 ^ l.length * vsum m
  | [], m => by simp [vsum]
  | c :: r, m => by
    simp only [List.cons_append, vsum, vsum_append r m, List.length_cons, Nat.pow_succ]
    rw [Nat.mul_add, Nat.add_assoc, ← Nat.mul_assoc, Nat.mul_comm 128 (128 ^ r.length)]
theorem vput_vsum : ∀ (p : List Nat) (c : Nat), (∀ x ∈ p, 128 ≤ x ∧ x < 256) → c < 128 → (p = [] ∨ c ≠ 0) → vput (vsum (p ++ [c])) = p ++ [c] := by
  intro p
  induction p with
  | nil => intro c _ hc _; simp only [List.nil_append, vsum]; rw [vput_small (by omega)]; congr 1; omega
  | cons d p ih =>
    intro c hp hc h0
    have hc0 : c ≠ 0 := by simpa using h0
    have hd := hp d (by simp)
    have h1 := ih c (fun x hx => hp x (by simp [hx])) hc (.inr hc0)
    have hpos : 0 < vsum (p ++ [c]) := by
      rw [vsum_append]
      simp only [vsum]
      have : 0 < 128 ^ p.length := Nat.pow_pos (by omega)
      have h2 : 0 < 128 ^ p.length * (c % 128 + 128 * 0) := Nat.mul_pos this (by omega)
      omega
    simp only [List.cons_append, vsum]
    rw [vput_big (by omega), show (d % 128 + 128 * vsum (p ++ [c])) / 128 = vsum (p ++ [c]) by omega, h1]
    congr 1
    omega
theorem ptake_all (f : Nat) : ∀ (i a : Nat) (l : List Nat), (∀ c ∈ l, 128 ≤ c) → ptake f i a l = none := by
  induction f with
  | zero => intros; rfl
  | succ f ih =>
    intro i a l h
    rcases l with _ | ⟨c, l⟩
    · rfl
    · simp only [ptake]
      rw [if_pos (h c (by simp))]
      exact ih _ _ _ (fun x hx => h x (by simp [hx]))
theorem vtake_all {l : List Nat} (h : ∀ c ∈ l, 128 ≤ c) : vtake l = none := ptake_all _ _ _ _ h
theorem ptake_pre : ∀ (p : List Nat) (f i a : Nat) (l : List Nat), (∀ c ∈ p, 128 ≤ c ∧ c < 256) → ptake (p.length + f) i a (p ++ l) = ptake f (i + p.length) (a + vsum p * 128 ^ i) l := by
  intro p
  induction p with
  | nil => intro f i a l _; simp [vsum]
  | cons c p ih =>
    intro f i a l h
    have hc := h c (by simp)
    rw [List.length_cons, show p.length + 1 + f = (p.length + f) + 1 by omega]
    simp only [List.cons_append, ptake]
    rw [if_pos hc.1, ih f (i + 1) _ l (fun x hx => h x (by simp [hx]))]
    congr 1
    · omega
    · simp only [vsum]
      rw [Nat.pow_succ, Nat.add_mul, Nat.add_assoc, show c % 128 = c - 128 by omega]
      congr 2
      rw [Nat.mul_comm (128 ^ i) 128, ← Nat.mul_assoc, Nat.mul_comm (vsum p) 128]
/-- The document's way and the program's are one. -/
theorem ref_take (p : List Nat) (c : Nat) (r : List Nat) (hn : p.length ≤ 9) (hp : ∀ x ∈ p, 128 ≤ x ∧ x < 256) (hc : c < 256) (hlast : p.length < 9 → c < 128) :
    vtake (p ++ c :: r) = if vput (vsum (p ++ [c]) % 18446744073709551616) = p ++ [c] then some (vsum (p ++ [c]) % 18446744073709551616, r) else none := by
  split
  · rename_i h
    have e : p ++ c :: r = vput (vsum (p ++ [c]) % 18446744073709551616) ++ r := by rw [h]; simp
    rw [e]
    exact vtake_vput _ (Nat.mod_lt _ (by omega)) _
  · rename_i h
    have h1 := ptake_pre p (10 - p.length) 0 0 (c :: r) hp
    rw [show p.length + (10 - p.length) = 10 by omega] at h1
    unfold vtake
    rw [h1]
    obtain ⟨f, hf⟩ : ∃ f, 10 - p.length = f + 1 := ⟨9 - p.length, by omega⟩
    rw [hf]
    simp only [ptake]
    split
    · rename_i hc1
      have : p.length = 9 := by
        rcases Nat.lt_or_ge p.length 9 with h2 | h2
        · have := hlast h2; omega
        · omega
      obtain rfl : f = 0 := by omega
      rfl
    · rename_i hc1
      rw [if_pos]
      apply Decidable.byContradiction
      intro hno
      apply h
      have hlt : vsum (p ++ [c]) < 18446744073709551616 := by
        have hv := vsum_lt p
        rw [vsum_append]
        simp only [vsum, Nat.mul_zero, Nat.add_zero]
        rw [Nat.mod_eq_of_lt (by omega)]
        rcases Nat.lt_or_ge p.length 9 with h2 | h2
        · have e9 : 128 ^ p.length ≤ 128 ^ 8 := Nat.pow_le_pow_right (by omega) (by omega)
          have : 128 ^ p.length * c ≤ 128 ^ 8 * 127 := Nat.mul_le_mul e9 (by omega)
          omega
        · have e9 : p.length = 9 := by omega
          rw [e9] at hv ⊢
          have hc2 : c ≤ 1 := by omega
          omega
      rw [Nat.mod_eq_of_lt hlt]
      refine vput_vsum p c hp (by omega) ?_
      rcases Nat.eq_zero_or_pos p.length with h0 | h0
      · exact .inl (List.eq_nil_of_length_eq_zero h0)
      · exact .inr (by omega)
/-- It fits 64 bits. -/
def S64 (x : Nat) : Prop := x < 18446744073709551616
theorem vput_len10 {x : Nat} (h : S64 x) : (vput x).length ≤ 10 := by
  refine vput_length_le 9 x ?_
  have : (18446744073709551616 : Nat) ≤ 128 ^ 10 := by decide
  unfold S64 at h
  exact Nat.lt_of_lt_of_le h this
theorem S64.div {x : Nat} (h : S64 x) (k : Nat) : S64 (x / k) := Nat.lt_of_le_of_lt (Nat.div_le_self _ _) h
theorem S64.mod (x : Nat) : S64 (x % 18446744073709551616) := Nat.mod_lt _ (by omega)
end Go.Proofs.YtjliocbdidiemaaDoor.var
