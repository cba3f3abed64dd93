/-
  Directories, in plain words: which may be, and which are chosen.
-/
import Derived.Test.YtnihladjafnjpaaListMath
namespace Go.Proofs.Ytnihladjafnjpaa.dr

/-- A directory: its kind, from where, to where. -/
structure Dr where
  k : Int
  f : Int
  t : Int
/-- Whether a directory may be. -/
def mayD (d : Dr) : Bool := decide (1 ≤ d.k ∧ d.k ≤ 4) && (decide (0 ≤ d.f ∧ d.f ≤ d.t ∧ d.t ≤ 1073741824) && (if d.k = 1 then decide (d.f = 0) else decide (d.k = 4) || decide (1 ≤ d.f)))
/-- One of a kind that may be taken. -/
def cand (kd most : Int) (d : Dr) : Bool := decide (d.k = kd) && (mayD d && decide (d.t ≤ most))
theorem cand_iff {kd most : Int} {d : Dr} : cand kd most d = true ↔ d.k = kd ∧ mayD d = true ∧ d.t ≤ most := by
  unfold cand
  simp [Bool.and_eq_true]
theorem may_facts {d : Dr} (h : mayD d = true) : (1 ≤ d.k ∧ d.k ≤ 4) ∧ 0 ≤ d.f ∧ d.f ≤ d.t ∧ d.t ≤ 1073741824 ∧ (d.k = 1 → d.f = 0) ∧ (d.k = 2 → 1 ≤ d.f) := by
  unfold mayD at h
  rw [Bool.and_eq_true, Bool.and_eq_true, decide_eq_true_eq, decide_eq_true_eq] at h
  obtain ⟨h1, h2, h3⟩ := h
  refine ⟨h1, h2.1, h2.2.1, h2.2.2, fun hk => ?_, fun hk => ?_⟩
  · rw [if_pos hk] at h3; exact of_decide_eq_true h3
  · rw [if_neg (by omega)] at h3
    simp at h3
    omega
/-- Of the bases, the one that goes furthest: the first of them. -/
def baseStep (most : Int) (o : Option Dr) (d : Dr) : Option Dr :=
  if cand 1 most d then (match o with | none => some d | some b => if b.t < d.t then some d else some b) else o
def baseOf (l : List Dr) (most : Int) : Option Dr := l.foldl (baseStep most) none
def TopB (l : List Dr) (most : Int) : Option Dr → Prop
  | none => ∀ e ∈ l, cand 1 most e = false
  | some d => d ∈ l ∧ cand 1 most d = true ∧ ∀ e ∈ l, cand 1 most e = true → e.t ≤ d.t
theorem base_step {l : List Dr} {most : Int} {o : Option Dr} {d : Dr} (h : TopB l most o) : TopB (l ++ [d]) most (baseStep most o d) := by
  unfold baseStep
  cases hc : cand 1 most d with
  | false =>
    rw [if_neg (by simp)]
    cases o with
    | none =>
      intro e he
      rcases List.mem_append.1 he with he | he
      · exact h e he
      · rw [List.mem_singleton.1 he]; exact hc
    | some b =>
      refine ⟨List.mem_append_left _ h.1, h.2.1, fun e he hce => ?_⟩
      rcases List.mem_append.1 he with he | he
      · exact h.2.2 e he hce
      · rw [List.mem_singleton.1 he, hc] at hce; cases hce
  | true =>
    rw [if_pos rfl]
    cases o with
    | none =>
      refine ⟨by simp, hc, fun e he hce => ?_⟩
      rcases List.mem_append.1 he with he | he
      · rw [h e he] at hce; cases hce
      · rw [List.mem_singleton.1 he]; exact Int.le_refl _
    | some b =>
      simp only
      by_cases hlt : b.t < d.t
      · rw [if_pos hlt]
        refine ⟨by simp, hc, fun e he hce => ?_⟩
        rcases List.mem_append.1 he with he | he
        · have := h.2.2 e he hce; omega
        · rw [List.mem_singleton.1 he]; exact Int.le_refl _
      · rw [if_neg hlt]
        refine ⟨List.mem_append_left _ h.1, h.2.1, fun e he hce => ?_⟩
        rcases List.mem_append.1 he with he | he
        · exact h.2.2 e he hce
        · rw [List.mem_singleton.1 he]; omega
theorem same_dr {a b : Dr} (h1 : a.k = b.k) (h2 : a.f = b.f) (h3 : a.t = b.t) : a = b := by
  cases a; cases b; simp_all
theorem top_one {l : List Dr} {most : Int} {o o' : Option Dr} (h : TopB l most o) (h' : TopB l most o') : o = o' := by
  cases o with
  | none =>
    cases o' with
    | none => rfl
    | some d => have := h d h'.1; rw [h'.2.1] at this; cases this
  | some d =>
    cases o' with
    | none => have := h' d h.1; rw [h.2.1] at this; cases this
    | some d' =>
      have e1 := h.2.2 d' h'.1 h'.2.1
      have e2 := h'.2.2 d h.1 h.2.1
      have c1 := cand_iff.1 h.2.1
      have c2 := cand_iff.1 h'.2.1
      have f1 := (may_facts c1.2.1).2.2.2.2.1 c1.1
      have f2 := (may_facts c2.2.1).2.2.2.2.1 c2.1
      rw [same_dr (a := d) (b := d') (by omega) (by omega) (by omega)]

/-- The next delta behind n: the least From, then the greatest To; the first of them. -/
def nextStep (most n : Int) (o : Option Dr) (d : Dr) : Option Dr :=
  if cand 2 most d && decide (n < d.f) then (match o with | none => some d | some b => if d.f < b.f ∨ d.f = b.f ∧ b.t < d.t then some d else some b) else o
def Next (l : List Dr) (most n : Int) : Option Dr → Prop
  | none => ∀ e ∈ l, cand 2 most e = true → e.f ≤ n
  | some d => d ∈ l ∧ cand 2 most d = true ∧ n < d.f ∧ ∀ e ∈ l, cand 2 most e = true → n < e.f → d.f < e.f ∨ d.f = e.f ∧ e.t ≤ d.t
theorem next_step {l : List Dr} {most n : Int} {o : Option Dr} {d : Dr} (h : Next l most n o) : Next (l ++ [d]) most n (nextStep most n o d) := by
  unfold nextStep
  by_cases hc : cand 2 most d = true ∧ n < d.f
  · rw [if_pos (by rw [Bool.and_eq_true, decide_eq_true_eq]; exact hc)]
    cases o with
    | none =>
      refine ⟨by simp, hc.1, hc.2, fun e he hce hn => ?_⟩
      rcases List.mem_append.1 he with he | he
      · have := h e he hce; omega
      · rw [List.mem_singleton.1 he]; omega
    | some b =>
      simp only
      by_cases hlt : d.f < b.f ∨ d.f = b.f ∧ b.t < d.t
      · rw [if_pos hlt]
        refine ⟨by simp, hc.1, hc.2, fun e he hce hn => ?_⟩
        rcases List.mem_append.1 he with he | he
        · have := h.2.2.2 e he hce hn; omega
        · rw [List.mem_singleton.1 he]; omega
      · rw [if_neg hlt]
        refine ⟨List.mem_append_left _ h.1, h.2.1, h.2.2.1, fun e he hce hn => ?_⟩
        rcases List.mem_append.1 he with he | he
        · exact h.2.2.2 e he hce hn
        · rw [List.mem_singleton.1 he]; omega
  · rw [if_neg (by rw [Bool.and_eq_true, decide_eq_true_eq]; exact hc)]
    cases o with
    | none =>
      intro e he hce
      rcases List.mem_append.1 he with he | he
      · exact h e he hce
      · rw [List.mem_singleton.1 he] at hce ⊢
        by_cases hn : n < d.f
        · exact absurd ⟨hce, hn⟩ hc
        · omega
    | some b =>
      refine ⟨List.mem_append_left _ h.1, h.2.1, h.2.2.1, fun e he hce hn => ?_⟩
      rcases List.mem_append.1 he with he | he
      · exact h.2.2.2 e he hce hn
      · rw [List.mem_singleton.1 he] at hce hn
        exact absurd ⟨hce, hn⟩ hc
theorem next_one {l : List Dr} {most n : Int} {o o' : Option Dr} (h : Next l most n o) (h' : Next l most n o') : o = o' := by
  cases o with
  | none =>
    cases o' with
    | none => rfl
    | some d => have := h d h'.1 h'.2.1; have := h'.2.2.1; omega
  | some d =>
    cases o' with
    | none => have := h' d h.1 h.2.1; have := h.2.2.1; omega
    | some d' =>
      have e1 := h.2.2.2 d' h'.1 h'.2.1 h'.2.2.1
      have e2 := h'.2.2.2 d h.1 h.2.1 h.2.2.1
      have c1 := cand_iff.1 h.2.1
      have c2 := cand_iff.1 h'.2.1
      rw [same_dr (a := d) (b := d') (by omega) (by omega) (by omega)]
/-- Deltas, one behind the other, from n on. -/
inductive Chain (l : List Dr) (most : Int) : Int → List Dr → Prop
  | done {n : Int} : Next l most n none → Chain l most n []
  | more {n : Int} {d : Dr} {o : List Dr} : Next l most n (some d) → Chain l most d.t o → Chain l most n (d :: o)
theorem chain_one {l : List Dr} {most : Int} : ∀ {n : Int} {o o' : List Dr}, Chain l most n o → Chain l most n o' → o = o' := by
  intro n o o' h
  induction h generalizing o' with
  | done h =>
    intro h'
    cases h' with
    | done _ => rfl
    | more k _ => have := next_one h k; cases this
  | more h _ ih =>
    intro h'
    cases h' with
    | done k => have := next_one h k; cases this
    | more k k2 =>
      have := next_one h k
      injection this with this
      subst this
      rw [ih k2]
/-- What is chosen. -/
def Chosen (l : List Dr) (most : Int) (o : List Dr) : Prop :=
  (TopB l most none ∧ Chain l most 0 o) ∨ ∃ d o', TopB l most (some d) ∧ o = d :: o' ∧ Chain l most d.t o'
theorem chosen_one {l : List Dr} {most : Int} {o o' : List Dr} (h : Chosen l most o) (h' : Chosen l most o') : o = o' := by
  rcases h with ⟨h1, h2⟩ | ⟨d, p, h1, rfl, h2⟩
  · rcases h' with ⟨k1, k2⟩ | ⟨d', p', k1, rfl, k2⟩
    · exact chain_one h2 k2
    · have := top_one h1 k1; cases this
  · rcases h' with ⟨k1, k2⟩ | ⟨d', p', k1, rfl, k2⟩
    · have := top_one h1 k1; cases this
    · have := top_one h1 k1
      injection this with this
      subst this
      rw [chain_one h2 k2]

/-- The program's way: of those that stand in order. -/
def greedy : Int → List Dr → List Dr
  | _, [] => []
  | n, d :: r => if n < d.f then d :: greedy d.t r else greedy n r
/-- Whether one stands no further than another. -/
def Le2 (a b : Dr) : Prop := a.f < b.f ∨ a.f = b.f ∧ b.t ≤ a.t
theorem greedy_chain {l : List Dr} {most : Int} : ∀ (r : List Dr) (n : Int), (∀ d ∈ r, d ∈ l ∧ cand 2 most d = true) → (∀ e ∈ l, cand 2 most e = true → n < e.f → e ∈ r) → r.Pairwise Le2 → Chain l most n (greedy n r)
  | [], n, _, h2, _ => Chain.done fun e he hce => by
      by_cases hn : n < e.f
      · exact absurd (h2 e he hce hn) (by simp)
      · omega
  | d :: r, n, h1, h2, h3 => by
    have hd := h1 d (by simp)
    rw [List.pairwise_cons] at h3
    unfold greedy
    by_cases hn : n < d.f
    · rw [if_pos hn]
      have hm := may_facts (cand_iff.1 hd.2).2.1
      refine Chain.more ⟨hd.1, hd.2, hn, fun e he hce hne => ?_⟩ (greedy_chain r d.t (fun e he => h1 e (by simp [he])) (fun e he hce hne => ?_) h3.2)
      · rcases List.mem_cons.1 (h2 e he hce hne) with rfl | hr
        · omega
        · exact h3.1 e hr
      · rcases List.mem_cons.1 (h2 e he hce (by omega)) with rfl | hr
        · omega
        · exact hr
    · rw [if_neg hn]
      refine greedy_chain r n (fun e he => h1 e (by simp [he])) (fun e he hce hne => ?_) h3.2
      rcases List.mem_cons.1 (h2 e he hce hne) with rfl | hr
      · omega
      · exact hr
/-- Of those that stand in order the first base, and the deltas behind it. -/
theorem sorted_chosen {l B D : List Dr} {most : Int} (hB : ∀ d, d ∈ B ↔ d ∈ l ∧ cand 1 most d = true) (hD : ∀ d, d ∈ D ↔ d ∈ l ∧ cand 2 most d = true) (sB : B.Pairwise Le2) (sD : D.Pairwise Le2) :
    Chosen l most (match B with | [] => greedy 0 D | b :: _ => b :: greedy b.t D) := by
  have hc : ∀ n, Chain l most n (greedy n D) := fun n => greedy_chain D n (fun d hd => (hD d).1 hd) (fun e he hce _ => (hD e).2 ⟨he, hce⟩) sD
  match B, hB, sB with
  | [], hB, _ =>
    refine .inl ⟨fun e he => ?_, hc 0⟩
    cases h : cand 1 most e with
    | false => rfl
    | true => exact absurd ((hB e).2 ⟨he, h⟩) (by simp)
  | b :: B, hB, sB =>
    have hb := (hB b).1 (by simp)
    refine .inr ⟨b, _, ⟨hb.1, hb.2, fun e he hce => ?_⟩, rfl, hc b.t⟩
    rw [List.pairwise_cons] at sB
    rcases List.mem_cons.1 ((hB e).2 ⟨he, hce⟩) with rfl | hr
    · exact Int.le_refl _
    · have h := sB.1 e hr
      have c1 := cand_iff.1 hb.2
      have c2 := cand_iff.1 hce
      have f1 := (may_facts c1.2.1).2.2.2.2.1 c1.1
      have f2 := (may_facts c2.2.1).2.2.2.2.1 c2.1
      unfold Le2 at h
      omega
end Go.Proofs.Ytnihladjafnjpaa.dr
