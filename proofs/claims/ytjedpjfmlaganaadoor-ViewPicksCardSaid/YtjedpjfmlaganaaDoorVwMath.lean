/-
  Rows with keys, in plain words: which key stands ahead; the first of each key, in order; and that to put rows one by one, and to sort and strike, come to that.
-/
import Derived.Test.YtjedpjfmlaganaaDoorValMath
namespace Go.Proofs.YtjedpjfmlaganaaDoor.vw
open Go

/-- A key: who inserted, the bucket, the number there. -/
structure Ke where
  id : Int
  bk : Int
  rw : Int
def eqK (a b : Ke) : Bool := decide (a.id = b.id) && (decide (a.bk = b.bk) && decide (a.rw = b.rw))
theorem eqK_iff {a b : Ke} : eqK a b = true ↔ a = b := by
  obtain ⟨a1, a2, a3⟩ := a
  obtain ⟨b1, b2, b3⟩ := b
  unfold eqK
  simp
theorem eqK_refl (a : Ke) : eqK a a = true := eqK_iff.2 rfl
theorem eqK_false {a b : Ke} : eqK a b = false ↔ a ≠ b := by
  rw [← Bool.not_eq_true, eqK_iff]
def ltK (a b : Ke) : Bool := if a.id = b.id then (if a.bk = b.bk then decide (a.rw < b.rw) else decide (a.bk < b.bk)) else decide (a.id < b.id)
theorem ltK_iff {a b : Ke} : ltK a b = true ↔ a.id < b.id ∨ (a.id = b.id ∧ (a.bk < b.bk ∨ (a.bk = b.bk ∧ a.rw < b.rw))) := by
  unfold ltK
  split
  · split
    · simp; omega
    · simp; omega
  · simp; omega
theorem ltK_irrefl (a : Ke) : ltK a a = false := by
  rw [← Bool.not_eq_true, ltK_iff]; omega
theorem ltK_trans {a b c : Ke} (h : ltK a b = true) (k : ltK b c = true) : ltK a c = true := by
  rw [ltK_iff] at *; omega
theorem ltK_asymm {a b : Ke} (h : ltK a b = true) : ltK b a = false := by
  rw [← Bool.not_eq_true]
  rw [ltK_iff] at *; omega
theorem ltK_tri (a b : Ke) : ltK a b = true ∨ a = b ∨ ltK b a = true := by
  obtain ⟨a1, a2, a3⟩ := a
  obtain ⟨b1, b2, b3⟩ := b
  rw [ltK_iff, ltK_iff]
  simp only [Ke.mk.injEq]
  omega
theorem ltK_ne {a b : Ke} (h : ltK a b = true) : a ≠ b := by
  rintro rfl
  rw [ltK_irrefl] at h
  cases h
/-- What the program's comparison comes to. -/
def cmpK (a b : Ke) : Int := va.orI (va.cmpI a.id b.id) (va.orI (va.cmpI a.bk b.bk) (va.cmpI a.rw b.rw))
theorem cmpK_lt (a b : Ke) : decide (cmpK a b < 0) = ltK a b := by
  rw [Bool.eq_iff_iff, decide_eq_true_eq, ltK_iff]
  unfold cmpK va.orI va.cmpI
  repeat' split
  all_goals omega
/-- The order of rows with keys. -/
def ordK (a b : Ke) : Int := if ltK a b then -1 else if ltK b a then 1 else 0
theorem ordK_lt (a b : Ke) : decide (ordK a b < 0) = ltK a b := by
  unfold ordK
  cases h : ltK a b
  · cases ltK b a <;> simp
  · simp

section
variable {α : Type} (key : α → Ke)
/-- The place among rows that stand in order, and what is put there. -/
def putK : List α → α → List α
  | [], x => [x]
  | y :: l, x => if ltK (key y) (key x) then y :: putK l x else if eqK (key y) (key x) then y :: l else x :: y :: l
def Rise (l : List α) : Prop := l.Pairwise fun a b => ltK (key a) (key b) = true
/-- The first of its key. -/
def First (l : List α) (x : α) : Prop := ∃ i : Nat, l[i]? = some x ∧ ∀ j y, j < i → l[j]? = some y → key y ≠ key x
/-- The first of each key, in order. -/
def Firsts (l R : List α) : Prop := Rise key R ∧ ∀ x, x ∈ R ↔ First key l x
variable {key}
theorem first_mem {l : List α} {x : α} (h : First key l x) : x ∈ l := by
  obtain ⟨i, hi, -⟩ := h
  exact List.mem_of_getElem? hi
theorem first_one {l : List α} {x y : α} (h : First key l x) (k : First key l y) (e : key x = key y) : x = y := by
  obtain ⟨i, hi, h1⟩ := h
  obtain ⟨j, hj, h2⟩ := k
  rcases Nat.lt_trichotomy i j with hlt | rfl | hlt
  · exact absurd e (h2 i x hlt hi)
  · rw [hi] at hj; exact Option.some.inj hj
  · exact absurd e.symm (h1 j y hlt hj)
theorem first_of_mem {x : α} : ∀ {l : List α}, x ∈ l → ∃ y, First key l y ∧ key y = key x := by
  intro l
  induction l with
  | nil => intro h; cases h
  | cons a l ih =>
    intro h
    by_cases hk : key a = key x
    · exact ⟨a, ⟨0, rfl, fun j y hj => by omega⟩, hk⟩
    · rcases List.mem_cons.1 h with rfl | h
      · exact absurd rfl hk
      · obtain ⟨y, ⟨i, hi, h1⟩, e⟩ := ih h
        refine ⟨y, ⟨i + 1, by simpa using hi, fun j z hj hz => ?_⟩, e⟩
        cases j with
        | zero =>
          simp at hz
          subst hz
          rw [e]; exact hk
        | succ j => exact h1 j z (by omega) (by simpa using hz)
theorem first_snoc {l : List α} {x z : α} : First key (l ++ [x]) z ↔ First key l z ∨ (z = x ∧ ∀ y ∈ l, key y ≠ key x) := by
  constructor
  · rintro ⟨i, hi, h1⟩
    by_cases hl : i < l.length
    · refine .inl ⟨i, by rwa [List.getElem?_append_left hl] at hi, fun j y hj hy => h1 j y hj ?_⟩
      rw [List.getElem?_append_left (by omega)]; exact hy
    · have hil : i = l.length := by
        have := (List.getElem?_eq_some_iff.1 hi).1
        simp at this
        omega
      subst hil
      rw [List.getElem?_append_right (Nat.le_refl _)] at hi
      simp at hi
      refine .inr ⟨hi.symm, fun y hy => ?_⟩
      obtain ⟨j, hj⟩ := List.getElem?_of_mem hy
      have hjl := (List.getElem?_eq_some_iff.1 hj).1
      rw [hi]
      exact h1 j y hjl (by rw [List.getElem?_append_left hjl]; exact hj)
  · rintro (⟨i, hi, h1⟩ | ⟨rfl, h1⟩)
    · have hl := (List.getElem?_eq_some_iff.1 hi).1
      refine ⟨i, by rw [List.getElem?_append_left hl]; exact hi, fun j y hj hy => h1 j y hj ?_⟩
      rwa [List.getElem?_append_left (by omega)] at hy
    · refine ⟨l.length, by simp, fun j y hj hy => h1 y ?_⟩
      rw [List.getElem?_append_left hj] at hy
      exact List.mem_of_getElem? hy
theorem rise_one {l m : List α} (hl : Rise key l) (hm : Rise key m) (h : ∀ x, x ∈ l ↔ x ∈ m) : l = m := by
  induction l generalizing m with
  | nil =>
    cases m with
    | nil => rfl
    | cons b m => exact absurd ((h b).2 (by simp)) (by simp)
  | cons a l ih =>
    cases m with
    | nil => exact absurd ((h a).1 (by simp)) (by simp)
    | cons b m =>
      unfold Rise at hl hm
      rw [List.pairwise_cons] at hl hm
      have hab : a = b := by
        rcases List.mem_cons.1 ((h a).1 (by simp)) with e | hma
        · exact e
        · rcases List.mem_cons.1 ((h b).2 (by simp)) with e | hlb
          · exact e.symm
          · have h1 := hm.1 a hma
            have h2 := ltK_asymm (hl.1 b hlb)
            rw [h1] at h2
            cases h2
      subst hab
      rw [ih hl.2 hm.2 fun x => ?_]
      constructor
      · intro hx
        rcases List.mem_cons.1 ((h x).1 (by simp [hx])) with rfl | hx'
        · have := hl.1 x hx; rw [ltK_irrefl] at this; cases this
        · exact hx'
      · intro hx
        rcases List.mem_cons.1 ((h x).2 (by simp [hx])) with rfl | hx'
        · have := hm.1 x hx; rw [ltK_irrefl] at this; cases this
        · exact hx'
theorem firsts_one {l R R' : List α} (h : Firsts key l R) (h' : Firsts key l R') : R = R' :=
  rise_one h.1 h'.1 fun x => (h.2 x).trans (h'.2 x).symm
theorem mem_putK {x : α} : ∀ {l : List α}, Rise key l → ∀ z, z ∈ putK key l x ↔ z ∈ l ∨ (z = x ∧ ∀ y ∈ l, key y ≠ key x)
  | [], _, z => by simp [putK]
  | y :: l, h, z => by
    unfold Rise at h
    rw [List.pairwise_cons] at h
    unfold putK
    by_cases h1 : ltK (key y) (key x) = true
    · rw [if_pos h1, List.mem_cons, mem_putK h.2 z, List.mem_cons]
      constructor
      · rintro (rfl | hz | ⟨rfl, hz⟩)
        · exact .inl (.inl rfl)
        · exact .inl (.inr hz)
        · refine .inr ⟨rfl, fun u hu => ?_⟩
          rcases List.mem_cons.1 hu with rfl | hu
          · exact ltK_ne h1
          · exact hz u hu
      · rintro ((rfl | hz) | ⟨rfl, hz⟩)
        · exact .inl rfl
        · exact .inr (.inl hz)
        · exact .inr (.inr ⟨rfl, fun u hu => hz u (by simp [hu])⟩)
    · rw [if_neg h1]
      by_cases h2 : eqK (key y) (key x) = true
      · rw [if_pos h2]
        refine ⟨fun hz => .inl hz, ?_⟩
        rintro (hz | ⟨rfl, hz⟩)
        · exact hz
        · exact absurd (eqK_iff.1 h2) (hz y (by simp))
      · rw [if_neg h2, List.mem_cons]
        constructor
        · rintro (rfl | hz)
          · refine .inr ⟨rfl, fun u hu e => ?_⟩
            rcases List.mem_cons.1 hu with rfl | hu
            · exact h2 (eqK_iff.2 e)
            · have h3 := h.1 u hu
              rw [e] at h3
              exact h1 h3
          · exact .inl hz
        · rintro (hz | ⟨rfl, -⟩)
          · exact .inr hz
          · exact .inl rfl
theorem rise_putK {x : α} : ∀ {l : List α}, Rise key l → Rise key (putK key l x)
  | [], _ => by simp [putK, Rise]
  | y :: l, h => by
    have h' := h
    unfold Rise at h'
    rw [List.pairwise_cons] at h'
    unfold putK
    by_cases h1 : ltK (key y) (key x) = true
    · rw [if_pos h1]
      unfold Rise
      rw [List.pairwise_cons]
      refine ⟨fun z hz => ?_, rise_putK h'.2⟩
      rcases (mem_putK h'.2 z).1 hz with hz | ⟨rfl, -⟩
      · exact h'.1 z hz
      · exact h1
    · rw [if_neg h1]
      by_cases h2 : eqK (key y) (key x) = true
      · rw [if_pos h2]; exact h
      · rw [if_neg h2]
        have hxy : ltK (key x) (key y) = true := by
          rcases ltK_tri (key y) (key x) with e | e | e
          · exact absurd e h1
          · exact absurd (eqK_iff.2 e) h2
          · exact e
        unfold Rise
        rw [List.pairwise_cons]
        refine ⟨fun z hz => ?_, h⟩
        rcases List.mem_cons.1 hz with rfl | hz
        · exact hxy
        · exact ltK_trans hxy (h'.1 z hz)
theorem firsts_nil : Firsts key ([] : List α) [] := ⟨List.Pairwise.nil, fun x => ⟨fun h => (by cases h), fun h => (by have := first_mem h; cases this)⟩⟩
theorem firsts_put {l R : List α} {x : α} (h : Firsts key l R) : Firsts key (l ++ [x]) (putK key R x) := by
  refine ⟨rise_putK h.1, fun z => ?_⟩
  rw [mem_putK h.1, first_snoc, h.2]
  constructor
  · rintro (h1 | ⟨rfl, h1⟩)
    · exact .inl h1
    · refine .inr ⟨rfl, fun y hy e => ?_⟩
      obtain ⟨u, hu, eu⟩ := first_of_mem (key := key) hy
      exact h1 u ((h.2 u).2 hu) (eu.trans e)
  · rintro (h1 | ⟨rfl, h1⟩)
    · exact .inl h1
    · exact .inr ⟨rfl, fun y hy => h1 y (first_mem ((h.2 y).1 hy))⟩
theorem firsts_foldl (l : List α) : Firsts key l (l.foldl (putK key) []) := by
  have : ∀ (m d R : List α), Firsts key d R → Firsts key (d ++ m) (m.foldl (putK key) R) := by
    intro m
    induction m with
    | nil => intro d R h; simpa using h
    | cons a m ih =>
      intro d R h
      have := ih (d ++ [a]) (putK key R a) (firsts_put h)
      rwa [List.append_assoc] at this
  simpa using this l [] [] firsts_nil
/-- Of rows that stand in order those ahead of which none of their key stands. -/
def strikeB (key : α → Ke) : Ke → List α → List α
  | _, [] => []
  | k, y :: l => if eqK (key y) k then strikeB key (key y) l else y :: strikeB key (key y) l
def strike (key : α → Ke) : List α → List α
  | [] => []
  | y :: l => y :: strikeB key (key y) l
/-- One stands ahead of another: by its key, then by its place. -/
def Bef (key : α → Ke) (a b : α × Nat) : Prop := ltK (key a.1) (key b.1) = true ∨ (key a.1 = key b.1 ∧ a.2 < b.2)
theorem strikeB_map : ∀ (T : List (α × Nat)) (k : Ke), strikeB key k (T.map (·.1)) = (strikeB (fun t => key t.1) k T).map (·.1)
  | [], _ => rfl
  | t :: T, k => by
    simp only [List.map_cons, strikeB]
    split
    · exact strikeB_map T _
    · rw [List.map_cons, strikeB_map T]
theorem bef_ne {a b : α × Nat} (h : Bef key a b) (hn : key b.1 ≠ key a.1) : ltK (key a.1) (key b.1) = true := by
  rcases h with h | h
  · exact h
  · exact absurd h.1.symm hn
theorem bef_lt {a b c : α × Nat} (h : ltK (key a.1) (key b.1) = true) (k : Bef key b c) : ltK (key a.1) (key c.1) = true := by
  rcases k with k | k
  · exact ltK_trans h k
  · rw [← k.1]; exact h
theorem mem_strikeB : ∀ {T : List (α × Nat)} {t0 : α × Nat}, T.Pairwise (Bef key) → (∀ t ∈ T, Bef key t0 t) → ∀ t, t ∈ strikeB (fun t => key t.1) (key t0.1) T ↔ t ∈ T ∧ key t.1 ≠ key t0.1 ∧ ∀ t' ∈ T, key t'.1 = key t.1 → t.2 ≤ t'.2
  | [], _, _, _, t => by simp [strikeB]
  | y :: T, t0, hp, h0, t => by
    rw [List.pairwise_cons] at hp
    have hy := h0 y (by simp)
    simp only [strikeB]
    by_cases he : eqK (key y.1) (key t0.1) = true
    · have e := eqK_iff.1 he
      rw [if_pos he, mem_strikeB hp.2 hp.1 t]
      constructor
      · rintro ⟨h1, h2, h3⟩
        refine ⟨by simp [h1], by rw [← e]; exact h2, fun t' ht' k => ?_⟩
        rcases List.mem_cons.1 ht' with rfl | ht'
        · exact absurd k.symm h2
        · exact h3 t' ht' k
      · rintro ⟨h1, h2, h3⟩
        rcases List.mem_cons.1 h1 with rfl | h1
        · exact absurd e h2
        · exact ⟨h1, by rw [e]; exact h2, fun t' ht' k => h3 t' (by simp [ht']) k⟩
    · rw [if_neg he, List.mem_cons, mem_strikeB hp.2 hp.1 t]
      have hne : key y.1 ≠ key t0.1 := fun e => he (eqK_iff.2 e)
      have hlt := bef_ne hy hne
      constructor
      · rintro (rfl | ⟨h1, h2, h3⟩)
        · refine ⟨by simp, hne, fun t' ht' k => ?_⟩
          rcases List.mem_cons.1 ht' with rfl | ht'
          · exact Nat.le_refl _
          · rcases hp.1 t' ht' with hb | hb
            · rw [k, ltK_irrefl] at hb; cases hb
            · exact Nat.le_of_lt hb.2
        · refine ⟨by simp [h1], fun e => ?_, fun t' ht' k => ?_⟩
          · have := ltK_ne (bef_lt hlt (hp.1 t h1))
            exact this e.symm
          · rcases List.mem_cons.1 ht' with rfl | ht'
            · exact absurd k.symm h2
            · exact h3 t' ht' k
      · rintro ⟨h1, h2, h3⟩
        rcases List.mem_cons.1 h1 with rfl | h1
        · exact .inl rfl
        · refine .inr ⟨h1, fun e => ?_, fun t' ht' k => h3 t' (by simp [ht']) k⟩
          have h4 := h3 y (by simp) e.symm
          rcases hp.1 t h1 with hb | hb
          · rw [e, ltK_irrefl] at hb; cases hb
          · omega
theorem rise_strikeB : ∀ {T : List (α × Nat)} {t0 : α × Nat}, T.Pairwise (Bef key) → (∀ t ∈ T, Bef key t0 t) → (t0 :: strikeB (fun t => key t.1) (key t0.1) T).Pairwise fun a b => ltK (key a.1) (key b.1) = true
  | [], _, _, _ => by simp [strikeB]
  | y :: T, t0, hp, h0 => by
    have hp' := hp
    rw [List.pairwise_cons] at hp
    have hy := h0 y (by simp)
    simp only [strikeB]
    by_cases he : eqK (key y.1) (key t0.1) = true
    · have e := eqK_iff.1 he
      rw [if_pos he]
      have ih := rise_strikeB hp.2 hp.1
      rw [List.pairwise_cons] at ih ⊢
      exact ⟨fun z hz => by rw [← e]; exact ih.1 z hz, ih.2⟩
    · rw [if_neg he]
      have hlt := bef_ne hy fun e => he (eqK_iff.2 e)
      have ih := rise_strikeB hp.2 hp.1
      rw [List.pairwise_cons]
      refine ⟨fun z hz => ?_, ih⟩
      rw [List.pairwise_cons] at ih
      rcases List.mem_cons.1 hz with rfl | hz
      · exact hlt
      · exact ltK_trans hlt (ih.1 z hz)
/-- Sorted so that what is of one key stays in its order, and struck: the first of each key. -/
theorem firsts_strike {l : List α} {T : List (α × Nat)} (hp : T.Perm l.zipIdx) (hs : T.Pairwise (Bef key)) : Firsts key l (strike key (T.map (·.1))) := by
  have hmem : ∀ x i, (x, i) ∈ T ↔ l[i]? = some x := fun x i => by
    rw [hp.mem_iff, List.mk_mem_zipIdx_iff_getElem?]
  cases T with
  | nil =>
    refine ⟨List.Pairwise.nil, fun x => ⟨fun h => (by cases h), fun h => ?_⟩⟩
    obtain ⟨i, hi, -⟩ := h
    have := (hmem x i).2 hi
    cases this
  | cons y T =>
    rw [List.pairwise_cons] at hs
    have hr := rise_strikeB hs.2 hs.1
    have hm := mem_strikeB hs.2 hs.1
    have e : strike key (((y :: T)).map (·.1)) = (y :: strikeB (fun t => key t.1) (key y.1) T).map (·.1) := by
      simp only [List.map_cons, strike]
      rw [strikeB_map]
    rw [e]
    refine ⟨?_, fun x => ?_⟩
    · unfold Rise
      rw [List.pairwise_map]
      exact hr
    · rw [List.mem_map]
      constructor
      · rintro ⟨t, ht, rfl⟩
        obtain ⟨h1, h2⟩ : t ∈ y :: T ∧ ∀ t' ∈ y :: T, key t'.1 = key t.1 → t.2 ≤ t'.2 := by
          rcases List.mem_cons.1 ht with rfl | ht
          · refine ⟨by simp, fun t' ht' k => ?_⟩
            rcases List.mem_cons.1 ht' with rfl | ht'
            · exact Nat.le_refl _
            · rcases hs.1 t' ht' with hb | hb
              · rw [k, ltK_irrefl] at hb; cases hb
              · exact Nat.le_of_lt hb.2
          · obtain ⟨h1, h2, h3⟩ := (hm t).1 ht
            refine ⟨by simp [h1], fun t' ht' k => ?_⟩
            rcases List.mem_cons.1 ht' with rfl | ht'
            · exact absurd k.symm h2
            · exact h3 t' ht' k
        refine ⟨t.2, (hmem t.1 t.2).1 h1, fun j z hj hz e => ?_⟩
        have := h2 (z, j) ((hmem z j).2 hz) e
        simp only at this
        omega
      · rintro ⟨i, hi, h1⟩
        refine ⟨(x, i), ?_, rfl⟩
        have hin := (hmem x i).2 hi
        have hmin : ∀ t' ∈ y :: T, key t'.1 = key x → i ≤ t'.2 := fun t' ht' k => by
          have := (hmem t'.1 t'.2).1 ht'
          by_cases hlt : t'.2 < i
          · exact absurd k (h1 _ _ hlt this)
          · omega
        by_cases he : (x, i) = y
        · rw [he]; simp
        · refine List.mem_cons_of_mem _ ((hm (x, i)).2 ⟨?_, fun e => ?_, fun t' ht' k => hmin t' (by simp [ht']) k⟩)
          · rcases List.mem_cons.1 hin with h | h
            · exact absurd h he
            · exact h
          · have h2 := hmin y (by simp) e.symm
            have h3 : (x, i) ∈ T := by
              rcases List.mem_cons.1 hin with h | h
              · exact absurd h he
              · exact h
            rcases hs.1 _ h3 with hb | hb
            · simp only at hb e; rw [e, ltK_irrefl] at hb; cases hb
            · have := hb.2; simp only at this; omega
end
end Go.Proofs.YtjedpjfmlaganaaDoor.vw
