/-
  Rows with keys, sorted so that what is of one key stays in its order: in plain words, over arrays.
-/
import Derived.Test.YtjedpjfmlaganaaDoorVwMath
import Derived.Sort.AssemblyPlain
namespace Go.Proofs.YtjedpjfmlaganaaDoor.vw
open Go Go.Sort
set_option linter.unusedVariables false

/-- A row with its key: where its values lie, and which these are. -/
structure Kd where
  k : Ke
  A : Option Addr
  n : Nat
  c : Nat
  vals : List va.Val
instance : Inhabited Kd := ⟨⟨⟨0, 0, 0⟩, none, 0, 0, []⟩⟩
def befB (a b : Kd × Nat) : Bool := ltK a.1.k b.1.k || (eqK a.1.k b.1.k && decide (a.2 < b.2))
theorem befB_iff {a b : Kd × Nat} : befB a b = true ↔ Bef Kd.k a b := by
  unfold befB Bef
  rw [Bool.or_eq_true, Bool.and_eq_true, eqK_iff, decide_eq_true_eq]
theorem bef_irrefl (a : Kd × Nat) : ¬ Bef Kd.k a a := by
  rintro (h | h)
  · rw [ltK_irrefl] at h; cases h
  · omega
theorem bef_trans {a b c : Kd × Nat} (h : Bef Kd.k a b) (k : Bef Kd.k b c) : Bef Kd.k a c := by
  rcases h with h | h <;> rcases k with k | k
  · exact .inl (ltK_trans h k)
  · exact .inl (by rw [← k.1]; exact h)
  · exact .inl (by rw [h.1]; exact k)
  · exact .inr ⟨h.1.trans k.1, by omega⟩
theorem bef_not {a b : Kd × Nat} (h : ¬ Bef Kd.k a b) (hn : a.2 ≠ b.2) : Bef Kd.k b a := by
  rcases ltK_tri a.1.k b.1.k with k | k | k
  · exact absurd (.inl k) h
  · by_cases hl : a.2 < b.2
    · exact absurd (.inr ⟨k, hl⟩) h
    · exact .inr ⟨k.symm, by omega⟩
  · exact .inl k
/-- Where the tag is greater: to stand ahead is to stand ahead by key. -/
theorem bef_key {a b : Kd × Nat} (h : b.2 < a.2) : Bef Kd.k a b ↔ ltK a.1.k b.1.k = true := by
  constructor
  · rintro (k | k)
    · exact k
    · omega
  · exact .inl
theorem bef_key' {a b : Kd × Nat} (h : b.2 < a.2) (k : ltK a.1.k b.1.k = false) : Bef Kd.k b a := bef_not (fun hb => by rw [(bef_key h).1 hb] at k; cases k) (by omega)
theorem swo_bef : SWO befB where
  irrefl x := by rw [← Bool.not_eq_true, befB_iff]; exact bef_irrefl x
  trans x y z h k := by rw [befB_iff] at *; exact bef_trans h k
  ntrans x y z h k := by
    rw [← Bool.not_eq_true, befB_iff] at *
    intro hb
    by_cases h1 : x.2 = y.2 ∧ x.1.k = y.1.k
    · apply k
      rcases hb with hb | hb
      · exact .inl (by rw [← h1.2]; exact hb)
      · exact .inr ⟨h1.2.symm.trans hb.1, by omega⟩
    · have hyx : Bef Kd.k y x := by
        rcases ltK_tri x.1.k y.1.k with e | e | e
        · exact absurd (.inl e) h
        · by_cases hl : x.2 < y.2
          · exact absurd (.inr ⟨e, hl⟩) h
          · exact .inr ⟨e.symm, by have : x.2 ≠ y.2 := fun e2 => h1 ⟨e2, e⟩; omega⟩
        · exact .inl e
      exact k (bef_trans hyx hb)

theorem swp_at (d : Array (Kd × Nat)) (i j x : Nat) (hi : i < d.size) (hj : j < d.size) (hij : i ≠ j) : (swp d i j)[x]! = if x = i then d[j]! else if x = j then d[i]! else d[x]! := by
  by_cases h1 : x = i
  · subst h1; rw [if_pos rfl, swp_left d x j hi hij]
  · rw [if_neg h1]
    by_cases h2 : x = j
    · subst h2; rw [if_pos rfl, swp_right d i x hj]
    · rw [if_neg h2, swp_other d i j x h1 h2]
/-- Two ranges exchanged. -/
def swr (d : Array (Kd × Nat)) (a b : Nat) : Nat → Array (Kd × Nat)
  | 0 => d
  | n + 1 => swp (swr d a b n) (a + n) (b + n)
theorem swr_size (d : Array (Kd × Nat)) (a b : Nat) : ∀ n, (swr d a b n).size = d.size
  | 0 => rfl
  | n + 1 => by rw [swr, size_swp, swr_size d a b n]
theorem swr_at (d : Array (Kd × Nat)) (a b x : Nat) : ∀ n, a + n ≤ b → b + n ≤ d.size → (swr d a b n)[x]! = if a ≤ x ∧ x < a + n then d[x - a + b]! else if b ≤ x ∧ x < b + n then d[x - b + a]! else d[x]!
  | 0, h1, h2 => by
    rw [if_neg (by omega), if_neg (by omega)]; rfl
  | n + 1, h1, h2 => by
    rw [swr, swp_at _ _ _ _ (by rw [swr_size]; omega) (by rw [swr_size]; omega) (by omega), swr_at d a b (b + n) n (by omega) (by omega), swr_at d a b (a + n) n (by omega) (by omega), swr_at d a b x n (by omega) (by omega)]
    rw [if_neg (show ¬ (a ≤ b + n ∧ b + n < a + n) by omega), if_neg (show ¬ (b ≤ b + n ∧ b + n < b + n) by omega), if_neg (show ¬ (a ≤ a + n ∧ a + n < a + n) by omega), if_neg (show ¬ (b ≤ a + n ∧ a + n < b + n) by omega)]
    by_cases e1 : x = a + n
    · subst e1
      rw [if_pos rfl, if_pos ⟨by omega, by omega⟩]
      congr 1; omega
    · rw [if_neg e1]
      by_cases e2 : x = b + n
      · subst e2
        rw [if_pos rfl, if_neg (by omega), if_pos ⟨by omega, by omega⟩]
        congr 1; omega
      · rw [if_neg e2]
        by_cases e3 : a ≤ x ∧ x < a + n
        · rw [if_pos e3, if_pos (by omega)]
        · rw [if_neg e3, if_neg (show ¬ (a ≤ x ∧ x < a + (n + 1)) by omega)]
          by_cases e4 : b ≤ x ∧ x < b + n
          · rw [if_pos e4, if_pos (by omega)]
          · rw [if_neg e4, if_neg (show ¬ (b ≤ x ∧ x < b + (n + 1)) by omega)]
theorem swr_perm (d : Array (Kd × Nat)) (a b lo hi : Nat) : ∀ n, a + n ≤ b → b + n ≤ hi → lo ≤ a → hi ≤ d.size → PermIn lo hi d (swr d a b n)
  | 0, _, _, _, _ => permIn_refl _ _ _
  | n + 1, h1, h2, h3, h4 => permIn_trans _ _ _ _ _ (swr_perm d a b lo hi n (by omega) (by omega) h3 h4) (swp_permIn _ lo hi _ _ (by omega) (by omega) (by omega) (by omega) (by rw [swr_size]; exact h4))
/-- What stands at a place behind a rotation. -/
def rotAt (d : Array (Kd × Nat)) (a m b x : Nat) : Kd × Nat := if a ≤ x ∧ x < b then (if x < a + (b - m) then d[x + (m - a)]! else d[x - (b - m)]!) else d[x]!
/-- A rotation on its way: what is left is a window of i, then j. -/
def RotW (d dk : Array (Kd × Nat)) (a m b i j : Nat) : Prop := i ≤ m - a ∧ j ≤ b - m ∧ dk.size = d.size ∧ PermIn a b d dk ∧
  (∀ x, x < m - i ∨ m + j ≤ x → dk[x]! = rotAt d a m b x) ∧ (∀ x, m - i ≤ x → x < m + j → rotAt d a m b x = if x < m - i + j then dk[x + i]! else dk[x - j]!)
theorem rot_start (d : Array (Kd × Nat)) (a m b : Nat) (h1 : a ≤ m) (h2 : m ≤ b) : RotW d d a m b (m - a) (b - m) := by
  refine ⟨Nat.le_refl _, Nat.le_refl _, rfl, permIn_refl _ _ _, fun x hx => ?_, fun x hx hx2 => ?_⟩
  · unfold rotAt; rw [if_neg (by omega)]
  · unfold rotAt; rw [if_pos (by omega)]
    by_cases h : x < a + (b - m)
    · rw [if_pos h, if_pos (by omega)]
    · rw [if_neg h, if_neg (by omega)]
theorem rot_left {d dk : Array (Kd × Nat)} {a m b i j : Nat} (hm : a ≤ m) (hmb : m ≤ b) (hb : b ≤ d.size) (h : RotW d dk a m b i j) (hij : j < i) : RotW d (swr dk (m - i) m j) a m b (i - j) j := by
  obtain ⟨h1, h2, h3, h4, h5, h6⟩ := h
  refine ⟨by omega, h2, by rw [swr_size]; exact h3, permIn_trans _ _ _ _ _ h4 (swr_perm dk _ _ a b j (by omega) (by omega) (by omega) (by omega)), fun x hx => ?_, fun x hx hx2 => ?_⟩
  · rw [swr_at dk _ _ x j (by omega) (by omega)]
    by_cases e : m - i ≤ x ∧ x < m - i + j
    · rw [if_pos e, h6 x (by omega) (by omega), if_pos (by omega)]
      congr 1; omega
    · rw [if_neg e, if_neg (by omega)]
      exact h5 x (by omega)
  · rw [h6 x (by omega) hx2, if_neg (by omega)]
    by_cases e : x < m - (i - j) + j
    · rw [if_pos e, swr_at dk _ _ _ j (by omega) (by omega), if_neg (by omega), if_pos (by omega)]
      congr 1; omega
    · rw [if_neg e, swr_at dk _ _ _ j (by omega) (by omega), if_neg (by omega), if_neg (by omega)]
theorem rot_right {d dk : Array (Kd × Nat)} {a m b i j : Nat} (hm : a ≤ m) (hmb : m ≤ b) (hb : b ≤ d.size) (h : RotW d dk a m b i j) (hij : i < j) : RotW d (swr dk (m - i) (m + j - i) i) a m b i (j - i) := by
  obtain ⟨h1, h2, h3, h4, h5, h6⟩ := h
  refine ⟨h1, by omega, by rw [swr_size]; exact h3, permIn_trans _ _ _ _ _ h4 (swr_perm dk _ _ a b i (by omega) (by omega) (by omega) (by omega)), fun x hx => ?_, fun x hx hx2 => ?_⟩
  · rw [swr_at dk _ _ x i (by omega) (by omega)]
    by_cases e : m + j - i ≤ x ∧ x < m + j - i + i
    · rw [if_neg (by omega), if_pos e, h6 x (by omega) (by omega), if_neg (by omega)]
      congr 1; omega
    · rw [if_neg (by omega), if_neg e]
      exact h5 x (by omega)
  · rw [h6 x hx (by omega), if_pos (by omega)]
    by_cases e : x < m - i + (j - i)
    · rw [if_pos e, swr_at dk _ _ _ i (by omega) (by omega), if_neg (by omega), if_neg (by omega)]
    · rw [if_neg e, swr_at dk _ _ _ i (by omega) (by omega), if_pos (by omega)]
      congr 1; omega
theorem rot_last {d dk : Array (Kd × Nat)} {a m b i : Nat} (hm : a ≤ m) (hmb : m ≤ b) (hb : b ≤ d.size) (h : RotW d dk a m b i i) : PermIn a b d (swr dk (m - i) m i) ∧ ∀ x, (swr dk (m - i) m i)[x]! = rotAt d a m b x := by
  obtain ⟨h1, h2, h3, h4, h5, h6⟩ := h
  refine ⟨permIn_trans _ _ _ _ _ h4 (swr_perm dk _ _ a b i (by omega) (by omega) (by omega) (by omega)), fun x => ?_⟩
  rw [swr_at dk _ _ x i (by omega) (by omega)]
  by_cases e : m - i ≤ x ∧ x < m - i + i
  · rw [if_pos e, h6 x (by omega) (by omega), if_pos (by omega)]
    congr 1; omega
  · rw [if_neg e]
    by_cases e2 : m ≤ x ∧ x < m + i
    · rw [if_pos e2, h6 x (by omega) (by omega), if_neg (by omega)]
      congr 1; omega
    · rw [if_neg e2]
      exact h5 x (by omega)
theorem rot_none {d : Array (Kd × Nat)} {s m e x : Nat} (h : s = m ∨ m = e) (hs : s ≤ m) (he : m ≤ e) : rotAt d s m e x = d[x]! := by
  unfold rotAt
  by_cases hx : s ≤ x ∧ x < e
  · rw [if_pos hx]
    rcases h with h | h
    · rw [if_pos (by omega)]; congr 1; omega
    · rw [if_neg (by omega)]; congr 1; omega
  · rw [if_neg hx]

/-- One stands ahead of the next from a to b. -/
def Srt (a b : Nat) (d : Array (Kd × Nat)) : Prop := ∀ i j, a ≤ i → i < j → j < b → Bef Kd.k d[i]! d[j]!
/-- The tags of the left part are less than those of the right one. -/
def Tag (a m b : Nat) (d : Array (Kd × Nat)) : Prop := ∀ i j, a ≤ i → i < m → m ≤ j → j < b → d[i]!.2 < d[j]!.2
/-- One on the left: where it goes. -/
theorem one_left {d d' : Array (Kd × Nat)} {a b i : Nat} (hs : Srt (a + 1) b d) (hi : a + 1 ≤ i) (hib : i ≤ b) (h1 : ∀ x, a + 1 ≤ x → x < i → Bef Kd.k d[x]! d[a]!) (h2 : ∀ x, i ≤ x → x < b → Bef Kd.k d[a]! d[x]!)
    (hd : ∀ x, d'[x]! = if a ≤ x ∧ x < i - 1 then d[x + 1]! else if x = i - 1 then d[a]! else d[x]!) : Srt a b d' := by
  intro x y hx hxy hy
  rw [hd x, hd y]
  by_cases e1 : x < i - 1
  · rw [if_pos ⟨hx, e1⟩]
    by_cases e2 : y < i - 1
    · rw [if_pos ⟨by omega, e2⟩]
      exact hs _ _ (by omega) (by omega) (by omega)
    · rw [if_neg (by omega)]
      by_cases e3 : y = i - 1
      · rw [if_pos e3]
        exact h1 _ (by omega) (by omega)
      · rw [if_neg e3]
        exact hs _ _ (by omega) (by omega) (by omega)
  · rw [if_neg (by omega), if_neg (show ¬ (a ≤ y ∧ y < i - 1) by omega), if_neg (show ¬ y = i - 1 by omega)]
    by_cases e3 : x = i - 1
    · rw [if_pos e3]
      exact h2 _ (by omega) (by omega)
    · rw [if_neg e3]
      exact hs _ _ (by omega) (by omega) (by omega)
/-- One on the right: where it goes. -/
theorem one_right {d d' : Array (Kd × Nat)} {a m i : Nat} (hs : Srt a m d) (hi : a ≤ i) (him : i ≤ m) (h1 : ∀ x, a ≤ x → x < i → Bef Kd.k d[x]! d[m]!) (h2 : ∀ x, i ≤ x → x < m → Bef Kd.k d[m]! d[x]!)
    (hd : ∀ x, d'[x]! = if x = i then d[m]! else if i < x ∧ x ≤ m then d[x - 1]! else d[x]!) : Srt a (m + 1) d' := by
  intro x y hx hxy hy
  rw [hd x, hd y]
  by_cases e1 : x = i
  · subst e1
    rw [if_pos rfl, if_neg (by omega), if_pos (by omega)]
    exact h2 _ (by omega) (by omega)
  · rw [if_neg e1]
    by_cases e2 : i < x ∧ x ≤ m
    · rw [if_pos e2, if_neg (by omega), if_pos (by omega)]
      exact hs _ _ (by omega) (by omega) (by omega)
    · rw [if_neg e2]
      by_cases e3 : y = i
      · subst e3
        rw [if_pos rfl]
        exact h1 _ (by omega) (by omega)
      · rw [if_neg e3]
        by_cases e4 : i < y ∧ y ≤ m
        · rw [if_pos e4]
          by_cases e5 : x < y - 1
          · exact hs _ _ (by omega) e5 (by omega)
          · omega
        · rw [if_neg e4]
          exact hs _ _ (by omega) (by omega) (by omega)
/-- Where the parts are exchanged, the two halves may be merged apart. -/
theorem sym_split {d e : Array (Kd × Nat)} {a m b s mid t : Nat} (ham : a < m) (hmb : m < b) (hmid : mid = (a + b) / 2) (ht : t = mid + m - s) (hs1 : a ≤ s) (hs2 : s ≤ m) (hs3 : s ≤ mid) (ht1 : m ≤ t) (ht2 : t ≤ b) (ht3 : mid ≤ t)
    (h1 : Srt a m d) (h2 : Srt m b d) (hT : Tag a m b d) (hA : a < s → t < b → Bef Kd.k d[s - 1]! d[t]!) (hB : s < m → m < t → Bef Kd.k d[t - 1]! d[s]!) (he : ∀ x, e[x]! = rotAt d s m t x) :
    Srt a s e ∧ Srt s mid e ∧ Srt mid t e ∧ Srt t b e ∧ Tag a s mid e ∧ Tag mid t b e ∧ (∀ x y, a ≤ x → x < mid → mid ≤ y → y < b → Bef Kd.k e[x]! e[y]!) := by
  have r1 : ∀ x, a ≤ x → x < s → e[x]! = d[x]! := fun x _ hx => by rw [he x]; unfold rotAt; rw [if_neg (by omega)]
  have r2 : ∀ x, s ≤ x → x < mid → e[x]! = d[x + (m - s)]! := fun x _ hx => by rw [he x]; unfold rotAt; rw [if_pos (by omega), if_pos (by omega)]
  have r3 : ∀ x, mid ≤ x → x < t → e[x]! = d[x - (t - m)]! := fun x _ hx => by rw [he x]; unfold rotAt; rw [if_pos (by omega), if_neg (by omega)]
  have r4 : ∀ x, t ≤ x → x < b → e[x]! = d[x]! := fun x hx _ => by rw [he x]; unfold rotAt; rw [if_neg (by omega)]
  have le1 : ∀ x y, a ≤ x → x ≤ y → y < m → x = y ∨ Bef Kd.k d[x]! d[y]! := fun x y hx hxy hy => by
    by_cases e : x = y
    · exact .inl e
    · exact .inr (h1 x y hx (by omega) hy)
  have le2 : ∀ x y, m ≤ x → x ≤ y → y < b → x = y ∨ Bef Kd.k d[x]! d[y]! := fun x y hx hxy hy => by
    by_cases e : x = y
    · exact .inl e
    · exact .inr (h2 x y hx (by omega) hy)
  refine ⟨fun i j hi hij hj => ?_, fun i j hi hij hj => ?_, fun i j hi hij hj => ?_, fun i j hi hij hj => ?_, fun i j hi hij hj hjb => ?_, fun i j hi hij hj hjb => ?_, fun x y hx hxm hy hyb => ?_⟩
  · rw [r1 i hi (by omega), r1 j (by omega) hj]; exact h1 _ _ hi hij (by omega)
  · rw [r2 i hi (by omega), r2 j (by omega) hj]; exact h2 _ _ (by omega) (by omega) (by omega)
  · rw [r3 i hi (by omega), r3 j (by omega) hj]; exact h1 _ _ (by omega) (by omega) (by omega)
  · rw [r4 i hi (by omega), r4 j (by omega) hj]; exact h2 _ _ (by omega) hij hj
  · rw [r1 i hi hij, r2 j hj hjb]; exact hT _ _ hi (by omega) (by omega) (by omega)
  · rw [r3 i hi hij, r4 j hj hjb]; exact hT _ _ (by omega) (by omega) (by omega) hjb
  · by_cases xs : x < s
    · rw [r1 x hx xs]
      by_cases yt : y < t
      · rw [r3 y hy yt]
        exact h1 _ _ hx (by omega) (by omega)
      · rw [r4 y (by omega) hyb]
        have hA' := hA (by omega) (by omega)
        rcases le1 x (s - 1) hx (by omega) (by omega) with e1 | e1 <;> rcases le2 t y ht1 (by omega) hyb with e2 | e2
        · rw [e1, ← e2]; exact hA'
        · rw [e1]; exact bef_trans hA' e2
        · rw [← e2]; exact bef_trans e1 hA'
        · exact bef_trans e1 (bef_trans hA' e2)
    · rw [r2 x (by omega) hxm]
      by_cases yt : y < t
      · rw [r3 y hy yt]
        have hB' := hB (by omega) (by omega)
        rcases le2 (x + (m - s)) (t - 1) (by omega) (by omega) (by omega) with e1 | e1 <;> rcases le1 s (y - (t - m)) hs1 (by omega) (by omega) with e2 | e2
        · rw [e1, ← e2]; exact hB'
        · rw [e1]; exact bef_trans hB' e2
        · rw [← e2]; exact bef_trans e1 hB'
        · exact bef_trans e1 (bef_trans hB' e2)
      · rw [r4 y (by omega) hyb]
        exact h2 _ _ (by omega) (by omega) hyb
theorem sym_join {e d1 d2 : Array (Kd × Nat)} {a mid b : Nat} (ham : a ≤ mid) (hmb : mid ≤ b) (hb : b ≤ e.size) (hc : ∀ x y, a ≤ x → x < mid → mid ≤ y → y < b → Bef Kd.k e[x]! e[y]!) (p1 : PermIn a mid e d1) (s1 : Srt a mid d1) (p2 : PermIn mid b d1 d2) (s2 : Srt mid b d2) : Srt a b d2 := by
  have hc1 : ∀ x y, a ≤ x → x < mid → mid ≤ y → y < b → Bef Kd.k d1[x]! d1[y]! := fun x y hx hxm hy hyb => by
    rw [p1.2.1 y (by omega)]
    exact permIn_all e d1 a mid (fun z => Bef Kd.k z e[y]!) (by omega) p1 (fun i hi hi2 => hc i y hi hi2 hy hyb) x hx hxm
  have hc2 : ∀ x y, a ≤ x → x < mid → mid ≤ y → y < b → Bef Kd.k d2[x]! d2[y]! := fun x y hx hxm hy hyb => by
    rw [p2.2.1 x (by omega)]
    exact permIn_all d1 d2 mid b (fun z => Bef Kd.k d1[x]! z) (by rw [p1.1]; exact hb) p2 (fun i hi hi2 => hc1 x i hx hxm hi hi2) y hy hyb
  intro x y hx hxy hy
  by_cases h1 : y < mid
  · rw [p2.2.1 x (by omega), p2.2.1 y (by omega)]
    exact s1 x y hx hxy h1
  · by_cases h2 : x < mid
    · exact hc2 x y hx h2 (by omega) hy
    · exact s2 x y (by omega) hxy hy
theorem tag_perm {d d' : Array (Kd × Nat)} {a m b p q : Nat} (hb : b ≤ d.size) (h : Tag a m b d) (hp : PermIn p q d d') (hq : q ≤ d.size) (hin : (a ≤ p ∧ q ≤ m) ∨ (m ≤ p ∧ q ≤ b) ∨ q ≤ a ∨ b ≤ p) : Tag a m b d' := by
  intro i j hi him hj hjb
  by_cases ei : p ≤ i ∧ i < q
  · rw [hp.2.1 j (by omega)]
    exact permIn_all d d' p q (fun z => z.2 < d[j]!.2) hq hp (fun x hx hx2 => h x j (by omega) (by omega) hj hjb) i ei.1 ei.2
  · rw [hp.2.1 i (by omega)]
    by_cases ej : p ≤ j ∧ j < q
    · exact permIn_all d d' p q (fun z => d[i]!.2 < z.2) hq hp (fun x hx hx2 => h i x hi him (by omega) (by omega)) j ej.1 ej.2
    · rw [hp.2.1 j (by omega)]
      exact h i j hi him hj hjb

/-- The insertion sort keeps what is of one key in its order. -/
def ltKd (a b : Kd × Nat) : Bool := ltK a.1.k b.1.k
theorem insInner_same (a : Nat) : ∀ (j : Nat) (d : Array (Kd × Nat)), j < d.size → (∀ x, a ≤ x → x < j → d[x]!.2 < d[j]!.2) → insInner ltKd a j d = insInner befB a j d
  | 0, d, _, _ => rfl
  | j + 1, d, hj, h => by
    unfold insInner
    by_cases ha : j + 1 > a
    · have h1 := h j (by omega) (by omega)
      have e : ltKd d[j + 1]! d[j]! = befB d[j + 1]! d[j]! := by
        rw [Bool.eq_iff_iff, befB_iff, bef_key h1]
        rfl
      rw [e]
      cases hb : befB d[j + 1]! d[j]!
      · simp
      · rw [if_pos (by simp [ha]), if_pos (by simp [ha])]
        refine insInner_same a j _ (by rw [size_swp]; omega) fun x hx hxj => ?_
        rw [swp_at _ _ _ _ hj (by omega) (by omega), swp_at _ _ _ _ hj (by omega) (by omega)]
        rw [if_neg (by omega), if_neg (by omega), if_neg (by omega), if_pos rfl]
        exact h x hx (by omega)
    · have e : decide (j + 1 > a) = false := decide_eq_false ha
      rw [e]
      rfl
theorem insInner_perm (lt : (Kd × Nat) → (Kd × Nat) → Bool) (a b : Nat) : ∀ (j : Nat) (d : Array (Kd × Nat)), j < b → b ≤ d.size → PermIn a b d (insInner lt a j d)
  | 0, d, _, _ => permIn_refl _ _ _
  | j + 1, d, hj, hb => by
    unfold insInner
    by_cases hc : (decide (j + 1 > a) && lt d[j + 1]! d[j]!) = true
    · rw [if_pos hc]
      have ha : j + 1 > a := by
        rw [Bool.and_eq_true, decide_eq_true_eq] at hc
        exact hc.1
      exact permIn_trans _ _ _ _ _ (swp_permIn d a b (j + 1) j (by omega) hj (by omega) (by omega) hb) (insInner_perm lt a b j _ (by omega) (by rw [size_swp]; exact hb))
    · rw [if_neg hc]; exact permIn_refl _ _ _
theorem io_eq (lt : (Kd × Nat) → (Kd × Nat) → Bool) (a b i : Nat) (d : Array (Kd × Nat)) : insOuter lt a b i d = if i < b then insOuter lt a b (i + 1) (insInner lt a i d) else d := by
  conv => lhs; rw [insOuter]
theorem insOuter_same (a b : Nat) : ∀ (f i : Nat) (d : Array (Kd × Nat)), b - i ≤ f → b ≤ d.size → (∀ x y, a ≤ x → x < y → i ≤ y → y < b → d[x]!.2 < d[y]!.2) → insOuter ltKd a b i d = insOuter befB a b i d
  | 0, i, d, hf, hb, h => by
    rw [io_eq ltKd, io_eq befB, if_neg (by omega), if_neg (by omega)]
  | f + 1, i, d, hf, hb, h => by
    rw [io_eq ltKd, io_eq befB]
    by_cases hi : i < b
    · rw [if_pos hi, if_pos hi, insInner_same a i d (by omega) fun x hx hxi => h x i hx hxi (Nat.le_refl _) hi]
      have hp := insInner_perm befB a (i + 1) i d (by omega) (by omega)
      refine insOuter_same a b f (i + 1) _ (by omega) (by rw [hp.1]; exact hb) fun x y hx hxy hy hyb => ?_
      rw [hp.2.1 y (by omega)]
      by_cases hxi : x < i + 1
      · exact permIn_all d _ a (i + 1) (fun z => z.2 < d[y]!.2) (by omega) hp (fun u hu hu2 => h u y hu (by omega) (by omega) hyb) x hx hxi
      · rw [hp.2.1 x (by omega)]
        exact h x y hx hxy (by omega) hyb
    · rw [if_neg hi, if_neg hi]
theorem ins_sorts (d : Array (Kd × Nat)) (a b : Nat) (hab : a ≤ b) (hb : b ≤ d.size) (h : ∀ x y, a ≤ x → x < y → y < b → d[x]!.2 < d[y]!.2) : PermIn a b d (Sort.insertionSort ltKd d a b) ∧ Srt a b (Sort.insertionSort ltKd d a b) := by
  have e : Sort.insertionSort ltKd d a b = Sort.insertionSort befB d a b := insOuter_same a b (b - (a + 1)) (a + 1) d (Nat.le_refl _) hb fun x y hx hxy _ hyb => h x y hx hxy hyb
  rw [e]
  have hh := insertionSort_holds (lt := befB) swo_bef d a b hab hb
  refine ⟨hh.1, fun i j hi hij hj => ?_⟩
  have hs := hh.2 i j hi hij hj
  rw [← Bool.not_eq_true, befB_iff] at hs
  refine bef_not hs fun et => ?_
  have hd : ∀ (t u : Nat), t ≠ u → a ≤ t → t < b → a ≤ u → u < b → d[t]!.2 ≠ d[u]!.2 := fun t u htu h1 h2 h3 h4 => by
    rcases Nat.lt_or_gt_of_ne htu with hl | hl
    · have := h t u h1 hl h4; omega
    · have := h u t h3 hl h2; omega
  have hn : (((Sort.insertionSort befB d a b).extract a b).toList.map (·.2)).Nodup := by
    rw [(hh.1.2.2.map (·.2)).nodup_iff, extract_toList d a b hb, List.map_map]
    rw [List.nodup_iff_pairwise_ne, List.pairwise_map]
    refine (List.pairwise_lt_range' ..).imp_of_mem fun {x y} hx hy hxy => ?_
    rw [List.mem_range'_1] at hx hy
    exact hd x y (by omega) (by omega) (by omega) (by omega) (by omega)
  rw [extract_toList _ a b (by rw [hh.1.1]; exact hb), List.map_map, List.nodup_iff_pairwise_ne, List.pairwise_map] at hn
  rw [List.pairwise_iff_getElem] at hn
  have h2 := hn (i - a) (j - a) (by rw [List.length_range']; omega) (by rw [List.length_range']; omega) (by omega)
  rw [List.getElem_range', List.getElem_range'] at h2
  simp only [Nat.one_mul, Function.comp] at h2
  rw [show a + (i - a) = i by omega, show a + (j - a) = j by omega] at h2
  exact h2 et.symm
end Go.Proofs.YtjedpjfmlaganaaDoor.vw
