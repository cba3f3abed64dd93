/-
  Rows with keys, sorted block by block: in plain words, over arrays.
-/
import Derived.Test.YtjedpjfmlaganaaDoorVwS
namespace Go.Proofs.YtjedpjfmlaganaaDoor.vw
open Go Go.Sort
set_option linter.unusedVariables false

/-- Behind the first blocks of 20 the tags still rise. -/
def Ins20 (N a : Nat) (d : Array (Kd × Nat)) : Prop := ∀ x y, x < y → y < N → (y < a → x / 20 = y / 20 → Bef Kd.k d[x]! d[y]!) ∧ (x / 20 < y / 20 ∨ a ≤ y → d[x]!.2 < d[y]!.2)
/-- Each block is sorted, and the tags of one block are less than those of the next. -/
def Blk (N s : Nat) (d : Array (Kd × Nat)) : Prop := ∀ x y, x < y → y < N → (x / s = y / s → Bef Kd.k d[x]! d[y]!) ∧ (x / s < y / s → d[x]!.2 < d[y]!.2)
/-- Two blocks are one, up to a. -/
def Mrg (N s a : Nat) (d : Array (Kd × Nat)) : Prop := ∀ x y, x < y → y < N → (y < a → (x / (2 * s) = y / (2 * s) → Bef Kd.k d[x]! d[y]!) ∧ (x / (2 * s) < y / (2 * s) → d[x]!.2 < d[y]!.2)) ∧
  (a ≤ y → (x / s = y / s → Bef Kd.k d[x]! d[y]!) ∧ (x / s < y / s → d[x]!.2 < d[y]!.2))
def Size3 (s : Nat) : Prop := s = 20 ∨ s = 40 ∨ s = 80

theorem ins_start {N : Nat} {d : Array (Kd × Nat)} (h : ∀ x y, x < y → y < N → d[x]!.2 < d[y]!.2) : Ins20 N 0 d := fun x y hxy hy => ⟨fun h => by omega, fun _ => h x y hxy hy⟩
theorem ins_pre {N a b : Nat} {d : Array (Kd × Nat)} (h : Ins20 N a d) (hb : b ≤ N) : ∀ x y, a ≤ x → x < y → y < b → d[x]!.2 < d[y]!.2 := fun x y hx hxy hy => (h x y hxy (by omega)).2 (.inr (by omega))
/-- A range permuted among itself, of which the tags all stand to those outside as before. -/
theorem tag_in {d d' : Array (Kd × Nat)} {a b x y : Nat} (hb : b ≤ d.size) (hp : PermIn a b d d') (hx : a ≤ x ∧ x < b) (hy : ¬ (a ≤ y ∧ y < b)) (h : ∀ z, a ≤ z → z < b → d[z]!.2 < d[y]!.2) : d'[x]!.2 < d'[y]!.2 := by
  rw [hp.2.1 y (by omega)]
  exact permIn_all d d' a b (fun z => z.2 < d[y]!.2) hb hp h x hx.1 hx.2
theorem tag_out {d d' : Array (Kd × Nat)} {a b x y : Nat} (hb : b ≤ d.size) (hp : PermIn a b d d') (hx : ¬ (a ≤ x ∧ x < b)) (hy : a ≤ y ∧ y < b) (h : ∀ z, a ≤ z → z < b → d[x]!.2 < d[z]!.2) : d'[x]!.2 < d'[y]!.2 := by
  rw [hp.2.1 x (by omega)]
  exact permIn_all d d' a b (fun z => d[x]!.2 < z.2) hb hp h y hy.1 hy.2
theorem ins_step {N a : Nat} {d d' : Array (Kd × Nat)} (hd : d.size = N) (h : Ins20 N a d) (ha : a % 20 = 0) (hb : a + 20 ≤ N) (hp : PermIn a (a + 20) d d') (hs : Srt a (a + 20) d') : Ins20 N (a + 20) d' := by
  intro x y hxy hy
  have hbs : a + 20 ≤ d.size := by omega
  by_cases ex : a ≤ x ∧ x < a + 20
  · by_cases ey : a ≤ y ∧ y < a + 20
    · exact ⟨fun _ _ => hs x y ex.1 hxy ey.2, fun h => by omega⟩
    · exact ⟨fun h => by omega, fun _ => tag_in hbs hp ex ey fun z hz hz2 => (h z y (by omega) hy).2 (.inr (by omega))⟩
  · by_cases ey : a ≤ y ∧ y < a + 20
    · exact ⟨fun _ e => by omega, fun _ => tag_out hbs hp ex ey fun z hz hz2 => (h x z (by omega) (by omega)).2 (.inr hz)⟩
    · rw [hp.2.1 x (by omega), hp.2.1 y (by omega)]
      exact ⟨fun h1 h2 => (h x y hxy hy).1 (by omega) h2, fun h1 => (h x y hxy hy).2 (by omega)⟩
theorem ins_last {N a : Nat} {d d' : Array (Kd × Nat)} (hd : d.size = N) (h : Ins20 N a d) (ha : a % 20 = 0) (haN : a ≤ N) (hb : N < a + 20) (hp : PermIn a N d d') (hs : Srt a N d') : Blk N 20 d' := by
  intro x y hxy hy
  have hbs : N ≤ d.size := by omega
  by_cases ex : a ≤ x ∧ x < N
  · exact ⟨fun _ => hs x y ex.1 hxy hy, fun h => by omega⟩
  · by_cases ey : a ≤ y ∧ y < N
    · exact ⟨fun e => by omega, fun _ => tag_out hbs hp ex ey fun z hz hz2 => (h x z (by omega) (by omega)).2 (.inr hz)⟩
    · rw [hp.2.1 x (by omega), hp.2.1 y (by omega)]
      exact ⟨fun h2 => (h x y hxy hy).1 (by omega) h2, fun h1 => (h x y hxy hy).2 (.inl h1)⟩
theorem mrg_start {N s : Nat} {d : Array (Kd × Nat)} (h : Blk N s d) : Mrg N s 0 d := fun x y hxy hy => ⟨fun h => by omega, fun _ => h x y hxy hy⟩
theorem mrg_pre {N s a b : Nat} {d : Array (Kd × Nat)} (hs : Size3 s) (h : Mrg N s a d) (ha : a % (2 * s) = 0) (hab : a + s < b) (hb : b ≤ a + 2 * s) (hN : b ≤ N) : Srt a (a + s) d ∧ Srt (a + s) b d ∧ Tag a (a + s) b d := by
  refine ⟨fun x y hx hxy hy => ((h x y hxy (by omega)).2 (by omega)).1 ?_, fun x y hx hxy hy => ((h x y hxy (by omega)).2 (by omega)).1 ?_, fun x y hx hxm hy hyb => ((h x y (by omega) (by omega)).2 (by omega)).2 ?_⟩
  all_goals
    rcases hs with rfl | rfl | rfl <;> omega
theorem mrg_step {N s a b : Nat} {d d' : Array (Kd × Nat)} (hs3 : Size3 s) (hd : d.size = N) (h : Mrg N s a d) (ha : a % (2 * s) = 0) (hab : a + s < b) (hb : b ≤ a + 2 * s) (hN : b ≤ N) (hl : b = a + 2 * s ∨ b = N) (hp : PermIn a b d d') (hs : Srt a b d') : Mrg N s (a + 2 * s) d' := by
  intro x y hxy hy
  have hbs : b ≤ d.size := by omega
  by_cases ex : a ≤ x ∧ x < b
  · by_cases ey : a ≤ y ∧ y < b
    · have hB := hs x y ex.1 hxy ey.2
      have e1 : ¬ x / (2 * s) < y / (2 * s) := by rcases hs3 with rfl | rfl | rfl <;> omega
      exact ⟨fun _ => ⟨fun _ => hB, fun h => absurd h e1⟩, fun h => by omega⟩
    · have ht := tag_in (x := x) (y := y) hbs hp ex ey fun z hz hz2 => ((h z y (by omega) hy).2 (by omega)).2 (by rcases hs3 with rfl | rfl | rfl <;> omega)
      have e1 : ¬ x / (2 * s) = y / (2 * s) := by rcases hs3 with rfl | rfl | rfl <;> omega
      have e2 : ¬ x / s = y / s := by rcases hs3 with rfl | rfl | rfl <;> omega
      exact ⟨fun _ => ⟨fun h => absurd h e1, fun _ => ht⟩, fun _ => ⟨fun h => absurd h e2, fun _ => ht⟩⟩
  · by_cases ey : a ≤ y ∧ y < b
    · have ht := tag_out (x := x) (y := y) hbs hp ex ey fun z hz hz2 => ((h x z (by omega) (by omega)).2 (by omega)).2 (by rcases hs3 with rfl | rfl | rfl <;> omega)
      have e1 : ¬ x / (2 * s) = y / (2 * s) := by rcases hs3 with rfl | rfl | rfl <;> omega
      exact ⟨fun _ => ⟨fun h => absurd h e1, fun _ => ht⟩, fun h => by omega⟩
    · rw [hp.2.1 x (by omega), hp.2.1 y (by omega)]
      by_cases ya : y < a
      · exact ⟨fun _ => (h x y hxy hy).1 ya, fun h => by omega⟩
      · exact ⟨fun h => by omega, fun _ => (h x y hxy hy).2 (by omega)⟩
theorem mrg_last {N s a : Nat} {d : Array (Kd × Nat)} (hs3 : Size3 s) (h : Mrg N s a d) (ha : a % (2 * s) = 0) (hb : N ≤ a + s) : Blk N (2 * s) d := by
  intro x y hxy hy
  by_cases ya : y < a
  · exact (h x y hxy hy).1 ya
  · have h2 := (h x y hxy hy).2 (by omega)
    by_cases xa : a ≤ x
    · have e1 : x / s = y / s := by rcases hs3 with rfl | rfl | rfl <;> omega
      have e2 : ¬ x / (2 * s) < y / (2 * s) := by rcases hs3 with rfl | rfl | rfl <;> omega
      exact ⟨fun _ => h2.1 e1, fun h => absurd h e2⟩
    · have e1 : x / s < y / s := by rcases hs3 with rfl | rfl | rfl <;> omega
      have e2 : ¬ x / (2 * s) = y / (2 * s) := by rcases hs3 with rfl | rfl | rfl <;> omega
      exact ⟨fun h => absurd h e2, fun _ => h2.2 e1⟩
theorem mrg_all {N s a : Nat} {d : Array (Kd × Nat)} (hs3 : Size3 s) (h : Mrg N s a d) (hb : N ≤ a) : Blk N (2 * s) d := fun x y hxy hy => (h x y hxy hy).1 (by omega)
theorem blk_all {N s : Nat} {d : Array (Kd × Nat)} (h : Blk N s d) (hs : N ≤ s) : Srt 0 N d := by
  intro x y _ hxy hy
  refine (h x y hxy hy).1 ?_
  rw [Nat.div_eq_of_lt (by omega), Nat.div_eq_of_lt (by omega)]
end Go.Proofs.YtjedpjfmlaganaaDoor.vw
