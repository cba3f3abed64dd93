/-
  What a list with more write-ids sees, in plain words; and the law, walked.
-/
import Derived.Test.YtjedpjfmlaganaaVwSh
import Derived.Test.YtjedpjfmlaganaaVwFew
namespace Go.Proofs.Ytjedpjfmlaganaa.vw
open Go.RowKit
set_option linter.unusedVariables false

theorem firsts_key {p : Kd → Bool} {rows S : List Kd} (h : Firsts Prod.fst ((rows.filter p).map cont) (S.map cont)) (κ : Ke) : (∃ x ∈ S, x.k = κ) ↔ ∃ u ∈ rows, p u = true ∧ u.k = κ := by
  constructor
  · rintro ⟨x, hx, rfl⟩
    have h1 := first_mem ((h.2 (cont x)).1 (List.mem_map_of_mem hx))
    obtain ⟨u, hu, e⟩ := List.mem_map.1 h1
    have hu' := List.mem_filter.1 hu
    refine ⟨u, hu'.1, hu'.2, ?_⟩
    have := congrArg Prod.fst e
    exact this
  · rintro ⟨u, hu, hp, rfl⟩
    obtain ⟨y, hy, e⟩ := first_of_mem (key := Prod.fst) (List.mem_map_of_mem (f := cont) (List.mem_filter.2 ⟨hu, hp⟩))
    obtain ⟨x, hx, rfl⟩ := List.mem_map.1 ((h.2 y).2 hy)
    exact ⟨x, hx, e⟩
theorem has_nil (H x : Int) : has H [] x = (decide (1 ≤ x) && decide (x ≤ H)) := by simp [has]
theorem any_key {S : List Kd} {κ : Ke} : (S.any fun y => eqK y.k κ) = true ↔ ∃ x ∈ S, x.k = κ := by
  rw [List.any_eq_true]
  constructor
  · rintro ⟨x, hx, e⟩
    exact ⟨x, hx, eqK_iff.1 e⟩
  · rintro ⟨x, hx, e⟩
    exact ⟨x, hx, eqK_iff.2 e⟩
theorem any_key' {S : List Kd} {κ : Ke} : (S.any fun y => eqK κ y.k) = true ↔ ∃ x ∈ S, x.k = κ := by
  rw [List.any_eq_true]
  constructor
  · rintro ⟨x, hx, e⟩
    exact ⟨x, hx, (eqK_iff.1 e).symm⟩
  · rintro ⟨x, hx, e⟩
    exact ⟨x, hx, eqK_iff.2 e.symm⟩
theorem gone_mem {H : Int} {ex : List Int} {gone : List Gn} {κ : Ke} : ((goneK H ex gone).any fun y => eqK y κ) = true ↔ ∃ g ∈ gone, has H ex g.who = true ∧ g.k = κ := by
  rw [List.any_eq_true]
  unfold goneK
  constructor
  · rintro ⟨y, hy, e⟩
    obtain ⟨g, hg, rfl⟩ := List.mem_map.1 hy
    have := List.mem_filter.1 hg
    exact ⟨g, this.1, this.2, eqK_iff.1 e⟩
  · rintro ⟨g, hg, h1, rfl⟩
    exact ⟨g.k, List.mem_map_of_mem (List.mem_filter.2 ⟨hg, h1⟩), eqK_refl _⟩
/-- Whether what is gone has this key by this one. -/
def goneBy (κ : Ke) (m : Int) (g : Gn) : Bool := eqK g.k κ && (g.who == m)
theorem grows_kept {n : Int} {rows Sa Sb : List Kd} {gone : List Gn} (ha : Firsts Prod.fst ((rows.filter (seen n [] gone)).map cont) (Sa.map cont)) (hb : Firsts Prod.fst ((rows.filter (seen (n + 1) [] gone)).map cont) (Sb.map cont)) {x : Kd} (hx : x ∈ Sa) :
    ((Sb.any fun y => eqK y.k x.k) || gone.any (goneBy x.k (n + 1))) = true := by
  obtain ⟨u, hu, hs, hk⟩ := (firsts_key ha x.k).1 ⟨x, hx, rfl⟩
  unfold seen at hs
  rw [Bool.and_eq_true, has_nil, Bool.and_eq_true, decide_eq_true_eq, decide_eq_true_eq, Bool.not_eq_true'] at hs
  rw [Bool.or_eq_true]
  by_cases hg : ((goneK (n + 1) [] gone).any fun y => eqK y u.k) = true
  · right
    obtain ⟨g, hgm, h1, h2⟩ := gone_mem.1 hg
    rw [List.any_eq_true]
    refine ⟨g, hgm, ?_⟩
    unfold goneBy
    rw [Bool.and_eq_true, beq_iff_eq]
    refine ⟨eqK_iff.2 (h2.trans hk), ?_⟩
    have hno : ¬ ((goneK n [] gone).any fun y => eqK y u.k) = true := by rw [hs.2]; simp
    have h3 : ¬ has n [] g.who = true := fun h => hno (gone_mem.2 ⟨g, hgm, h, h2⟩)
    rw [has_nil, Bool.and_eq_true, decide_eq_true_eq, decide_eq_true_eq] at h1 h3
    omega
  · left
    rw [any_key]
    refine (firsts_key hb x.k).2 ⟨u, hu, ?_, hk⟩
    unfold seen
    rw [Bool.and_eq_true, has_nil, Bool.and_eq_true, decide_eq_true_eq, decide_eq_true_eq]
    exact ⟨⟨hs.1.1, by omega⟩, by simpa using hg⟩
theorem grows_known {n : Int} {rows Sa Sb : List Kd} {gone : List Gn} (ha : Firsts Prod.fst ((rows.filter (seen n [] gone)).map cont) (Sa.map cont)) (hb : Firsts Prod.fst ((rows.filter (seen (n + 1) [] gone)).map cont) (Sb.map cont)) {x : Kd} (hx : x ∈ Sb) :
    ((x.k.id == n + 1) || Sa.any fun y => eqK x.k y.k) = true := by
  obtain ⟨u, hu, hs, hk⟩ := (firsts_key hb x.k).1 ⟨x, hx, rfl⟩
  unfold seen at hs
  rw [Bool.and_eq_true, has_nil, Bool.and_eq_true, decide_eq_true_eq, decide_eq_true_eq, Bool.not_eq_true'] at hs
  rw [Bool.or_eq_true, beq_iff_eq]
  by_cases hid : x.k.id = n + 1
  · exact .inl hid
  · right
    rw [any_key']
    refine (firsts_key ha x.k).2 ⟨u, hu, ?_, hk⟩
    have hid2 : u.k.id ≠ n + 1 := by rw [hk]; exact hid
    unfold seen
    rw [Bool.and_eq_true, has_nil, Bool.and_eq_true, decide_eq_true_eq, decide_eq_true_eq]
    refine ⟨⟨hs.1.1, by omega⟩, ?_⟩
    cases hg : ((goneK n [] gone).any fun y => eqK y u.k) with
    | false => rfl
    | true =>
      obtain ⟨g, hgm, h1, h2⟩ := gone_mem.1 hg
      have h3 : ((goneK (n + 1) [] gone).any fun y => eqK y u.k) = true := gone_mem.2 ⟨g, hgm, by
        rw [has_nil, Bool.and_eq_true, decide_eq_true_eq, decide_eq_true_eq] at h1 ⊢
        omega, h2⟩
      rw [h3] at hs
      exact absurd hs.2 (by simp)
theorem eqk_exec {x y : Ke} {ev : Operand → Value} {o : Oper} {s1 s2 : Operand} {t : TypeId} (ho : o.op = .binOp .eql 43 s1 s2 t) (h1 : ev s1 = .agg #[.int .i64 x.id, .int .i64 x.bk, .int .i64 x.rw]) (h2 : ev s2 = .agg #[.int .i64 y.id, .int .i64 y.bk, .int .i64 y.rw]) (W : World) : (execOp ev o).run Try.prog W = .ok (.value (.bool (eqK x y))) W := by
  unfold execOp
  simp only [ho, h1, h2]
  rw [eqK_eq]
  by_cases e0 : x.id = y.id <;> by_cases e1 : x.bk = y.bk <;> by_cases e2 : x.rw = y.rw
  all_goals go_simp
theorem any_step {α : Type} {p : α → Bool} {l : List α} {j : Nat} {u : α} (h : l[j]? = some u) : (l.take (j + 1)).any p = ((l.take j).any p || p u) := by
  rw [take_snoc h, List.any_append]
  simp
end Go.Proofs.Ytjedpjfmlaganaa.vw
