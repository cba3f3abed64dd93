/-
  What is seen of merged rows, in plain words.
-/
import Derived.Test.YtjedpjfmlaganaaVwRof
import Derived.Test.YtjedpjfmlaganaaVwMg
namespace Go.Proofs.Ytjedpjfmlaganaa.vw
open Go.RowKit
set_option linter.unusedVariables false

theorem first_filter {α : Type} {key : α → Ke} {p : α → Bool} (hp : ∀ x y, key x = key y → p x = p y) {l : List α} {x : α} : First key (l.filter p) x ↔ First key l x ∧ p x = true := by
  obtain ⟨m, rfl⟩ : ∃ m, l = m.reverse := ⟨l.reverse, by simp⟩
  induction m with
  | nil => simp only [List.reverse_nil, List.filter_nil]; exact ⟨fun h => absurd (first_mem h) (by simp), fun h => absurd (first_mem h.1) (by simp)⟩
  | cons a m ih =>
    rw [List.reverse_cons, List.filter_append]
    generalize m.reverse = l at ih
    cases ha : p a with
    | false =>
      simp only [List.filter_cons, ha, List.filter_nil, List.append_nil, Bool.false_eq_true, if_false]
      rw [ih, first_snoc]
      constructor
      · rintro ⟨h1, h2⟩; exact ⟨.inl h1, h2⟩
      · rintro ⟨h1 | ⟨rfl, h1⟩, h2⟩
        · exact ⟨h1, h2⟩
        · rw [ha] at h2; cases h2
    | true =>
      simp only [List.filter_cons, ha, List.filter_nil, if_true]
      rw [first_snoc, first_snoc, ih]
      constructor
      · rintro (⟨h1, h2⟩ | ⟨rfl, h1⟩)
        · exact ⟨.inl h1, h2⟩
        · refine ⟨.inr ⟨rfl, fun y hy e => ?_⟩, ha⟩
          exact h1 y (List.mem_filter.2 ⟨hy, by rw [hp y x e]; exact ha⟩) e
      · rintro ⟨h1 | ⟨rfl, h1⟩, h2⟩
        · exact .inl ⟨h1, h2⟩
        · exact .inr ⟨rfl, fun y hy e => h1 y (List.mem_filter.1 hy).1 e⟩
theorem firsts_filter {α : Type} {key : α → Ke} {p : α → Bool} (hp : ∀ x y, key x = key y → p x = p y) {l R : List α} (h : Firsts key l R) : Firsts key (l.filter p) (R.filter p) := by
  refine ⟨h.1.filter _, fun x => ?_⟩
  rw [first_filter hp, List.mem_filter, h.2 x]
/-- Rows that stand in order are the first of each key of themselves. -/
theorem firsts_self {α : Type} {key : α → Ke} {l : List α} (h : Rise key l) : Firsts key l l := by
  refine ⟨h, fun x => ⟨fun hx => ?_, first_mem⟩⟩
  obtain ⟨y, hy, e⟩ := first_of_mem (key := key) hx
  have hyl := first_mem hy
  obtain ⟨i, hi⟩ := List.getElem?_of_mem hx
  obtain ⟨j, hj⟩ := List.getElem?_of_mem hyl
  have hil := (List.getElem?_eq_some_iff.1 hi)
  have hjl := (List.getElem?_eq_some_iff.1 hj)
  obtain ⟨hi1, hi2⟩ := hil
  obtain ⟨hj1, hj2⟩ := hjl
  rcases Nat.lt_trichotomy i j with h1 | h1 | h1
  · have := (List.pairwise_iff_getElem.1 h) i j hi1 hj1 h1
    rw [hi2, hj2, e, ltK_irrefl] at this
    cases this
  · subst h1
    rw [hi2] at hj2
    rw [hj2]
    exact hy
  · have := (List.pairwise_iff_getElem.1 h) j i hj1 hi1 h1
    rw [hi2, hj2, e, ltK_irrefl] at this
    cases this
/-- What is seen hangs on the key, and on what is gone as a set. -/
theorem seen_key (H : Int) (ex : List Int) (gone : List Gn) (x y : Kd) (h : x.k = y.k) : seen H ex gone x = seen H ex gone y := by
  unfold seen; rw [h]
theorem seen_set (H : Int) (ex : List Int) {g1 g2 : List Gn} (h : ∀ z, z ∈ g1 ↔ z ∈ g2) (x : Kd) : seen H ex g1 x = seen H ex g2 x := by
  rw [seen_by, seen_by]
  congr 2
  rw [Bool.eq_iff_iff, List.any_eq_true, List.any_eq_true]
  constructor
  · rintro ⟨z, hz, h1⟩; exact ⟨z, (h z).1 hz, h1⟩
  · rintro ⟨z, hz, h1⟩; exact ⟨z, (h z).2 hz, h1⟩
/-- The law: what is seen of merged rows, and of what is gone, merged, is what is seen of all. -/
theorem together {H : Int} {ex : List Int} {a b S X Y : List Kd} {c d : List Gn} (hS : Firsts Prod.fst ((a ++ b).map cont) (S.map cont)) (hX : Firsts Prod.fst (((a ++ b).filter (seen H ex (c ++ d))).map cont) (X.map cont))
    (hY : Firsts Prod.fst ((S.filter (seen H ex ((d ++ c).foldl putG []))).map cont) (Y.map cont)) : X.map cont = Y.map cont := by
  have hset : ∀ z, z ∈ (d ++ c).foldl putG [] ↔ z ∈ c ++ d := fun z => by
    rw [fold_memG]
    simp only [List.not_mem_nil, false_or, List.mem_append]
    exact or_comm
  have hfun : seen H ex ((d ++ c).foldl putG []) = seen H ex (c ++ d) := funext fun x => seen_set H ex hset x
  rw [hfun] at hY
  -- what is seen, said of keys and values
  let q : Ke × List va.Val → Bool := fun t => seen H ex (c ++ d) ⟨t.1, none, 0, 0, t.2⟩
  have hq : ∀ l : List Kd, (l.filter (seen H ex (c ++ d))).map cont = (l.map cont).filter q := fun l => by
    rw [List.filter_map]
    congr 1
  rw [hq] at hX hY
  have hqk : ∀ x y : Ke × List va.Val, x.1 = y.1 → q x = q y := fun x y e => seen_key H ex _ _ _ e
  have h1 := firsts_filter (p := q) hqk hS
  have h2 := firsts_self h1.1
  rw [firsts_one hX h1, firsts_one hY h2]
/-- Of what a list sees: it is of the list. -/
theorem seen_of {H : Int} {ex : List Int} {rows S : List Kd} {gone : List Gn} (h : Firsts Prod.fst ((rows.filter (seen H ex gone)).map cont) (S.map cont)) {x : Kd} (hx : x ∈ S) : has H ex x.k.id = true := by
  obtain ⟨u, hu, hp, hk⟩ := (firsts_key h x.k).1 ⟨x, hx, rfl⟩
  unfold seen at hp
  rw [Bool.and_eq_true] at hp
  rw [← hk]
  exact hp.1
/-- It rises. -/
theorem rise_of {l : List (Ke × List va.Val)} {S : List Kd} (h : Firsts Prod.fst l (S.map cont)) {i : Nat} {x y : Kd} (hx : S[i]? = some x) (hy : S[i + 1]? = some y) : ltK x.k y.k = true := by
  have hr := h.1
  obtain ⟨h1, rfl⟩ := List.getElem?_eq_some_iff.1 hx
  obtain ⟨h2, rfl⟩ := List.getElem?_eq_some_iff.1 hy
  have := (List.pairwise_iff_getElem.1 hr) i (i + 1) (by simpa using h1) (by simpa using h2) (by omega)
  simpa [cont] using this
end Go.Proofs.Ytjedpjfmlaganaa.vw
