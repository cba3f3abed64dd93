/-
  What is known of two rows, merged, is what is known of both: in plain words.
-/
import Derived.Test.YtdnkclbheimlcaaDoorStKa
import Derived.Test.YtdnkclbheimlcaaDoorStM
namespace Go.Proofs.YtdnkclbheimlcaaDoor.st
open Go va

theorem wf_of_in {n : Int} (h : In n) : (Lit.int .i64 n).wf = true := by
  unfold In at h
  simp [Lit.wf, IntKind.min, IntKind.max, IntKind.signed, IntKind.bits]
  omega
theorem low_if {m v : Val} (h : m.nul = false) : low m v = if cmpV v m < 0 then v else m := by
  unfold low
  rw [h]
  simp only [Bool.false_or, decide_eq_true_eq]
theorem high_if {m v : Val} (h : m.nul = false) : high m v = if 0 < cmpV v m then v else m := by
  unfold high
  rw [h]
  simp only [Bool.false_or, decide_eq_true_eq]
theorem low_three {x y v : Val} (hx : x.nul = false) (hy : y.nul = false) (hv : v.nul = false) : low (best (-1) x y) v = best (-1) x (low y v) := by
  rw [best_low hy, best_low (low_nul hv)]
  have ayx := cmpV_anti y x
  have avy := cmpV_anti v y
  have avx := cmpV_anti v x
  have t1 := fun (h : cmpV v y ≤ 0) (k : cmpV y x ≤ 0) => cmpV_chain h k
  have t2 := fun (h : cmpV x y ≤ 0) (k : cmpV y v ≤ 0) => cmpV_chain h k
  have t3 := fun (h : cmpV y x ≤ 0) (k : cmpV x v ≤ 0) => cmpV_chain h k
  rw [low_if hx, low_if hy]
  by_cases h1 : cmpV y x < 0
  · rw [if_pos h1, low_if hy]
    by_cases h2 : cmpV v y < 0
    · rw [if_pos h2, low_if hx, if_pos]
      have := t1 (by omega) (by omega)
      by_cases h0 : cmpV v x = 0
      · have := t3 (by omega) (by omega); omega
      · omega
    · rw [if_neg h2, low_if hx, if_pos h1]
  · rw [if_neg h1, low_if hx]
    by_cases h2 : cmpV v y < 0
    · rw [if_pos h2, low_if hx]
    · rw [if_neg h2, low_if hx, if_neg h1, if_neg]
      have := t2 (by omega) (by omega)
      omega
theorem high_three {x y v : Val} (hx : x.nul = false) (hy : y.nul = false) (hv : v.nul = false) : high (best 1 x y) v = best 1 x (high y v) := by
  rw [best_high hy, best_high (high_nul hv)]
  have ayx := cmpV_anti y x
  have avy := cmpV_anti v y
  have avx := cmpV_anti v x
  have t1 := fun (h : cmpV x y ≤ 0) (k : cmpV y v ≤ 0) => cmpV_chain h k
  have t2 := fun (h : cmpV v y ≤ 0) (k : cmpV y x ≤ 0) => cmpV_chain h k
  have t3 := fun (h : cmpV v x ≤ 0) (k : cmpV x y ≤ 0) => cmpV_chain h k
  rw [high_if hx, high_if hy]
  by_cases h1 : 0 < cmpV y x
  · rw [if_pos h1, high_if hy]
    by_cases h2 : 0 < cmpV v y
    · rw [if_pos h2, high_if hx, if_pos]
      have := t1 (by omega) (by omega)
      by_cases h0 : cmpV v x = 0
      · have := t3 (by omega) (by omega); omega
      · omega
    · rw [if_neg h2, high_if hx, if_pos h1]
  · rw [if_neg h1, high_if hx]
    by_cases h2 : 0 < cmpV v y
    · rw [if_pos h2, high_if hx]
    · rw [if_neg h2, high_if hx, if_neg h1, if_neg]
      have := t2 (by omega) (by omega)
      omega

theorem acc_none (l : List Val) : ((acc l).mn = none ∨ (acc l).mn.nul = false) ∧ ((acc l).mx = none ∨ (acc l).mx.nul = false) := by
  have key : ∀ (l : List Val) (a : Acc), ((a.mn = none ∨ a.mn.nul = false) ∧ (a.mx = none ∨ a.mx.nul = false)) → (((l.foldl step a).mn = none ∨ (l.foldl step a).mn.nul = false) ∧ ((l.foldl step a).mx = none ∨ (l.foldl step a).mx.nul = false)) := by
    intro l
    induction l with
    | nil => intro a h; exact h
    | cons v l ih =>
      intro a h
      refine ih _ ?_
      cases hv : v.nul with
      | true => rw [step_nul hv]; exact h
      | false => rw [step_some hv]; exact ⟨.inr (low_nul hv), .inr (high_nul hv)⟩
  exact key l start ⟨.inl rfl, .inl rfl⟩
def comb (a b : Acc) : Acc := ⟨a.c + b.c, a.hn || b.hn, best (-1) a.mn b.mn, best 1 a.mx b.mx, a.t + b.t⟩
theorem comb_step (a b : Acc) (v : Val) (hm : (a.mn = none ∨ a.mn.nul = false) ∧ (a.mx = none ∨ a.mx.nul = false)) (hb : (b.mn = none ∨ b.mn.nul = false) ∧ (b.mx = none ∨ b.mx.nul = false)) : step (comb a b) v = comb a (step b v) := by
  cases hv : v.nul with
  | true => rw [step_nul hv, step_nul hv]; simp only [comb, Bool.or_true]
  | false =>
    rw [step_some hv, step_some hv]
    have e1 : low (best (-1) a.mn b.mn) v = best (-1) a.mn (low b.mn v) := by
      rcases hm.1 with h | h
      · rw [h]; rfl
      · rcases hb.1 with k | k
        · have e2 : best (-1) a.mn b.mn = a.mn := by
            rw [k]; unfold best; rw [h]; rfl
          have e3 : low b.mn v = v := by rw [k]; rfl
          rw [e2, e3, best_low hv]
        · exact low_three h k hv
    have e2 : high (best 1 a.mx b.mx) v = best 1 a.mx (high b.mx v) := by
      rcases hm.2 with h | h
      · rw [h]; rfl
      · rcases hb.2 with k | k
        · have e2 : best 1 a.mx b.mx = a.mx := by
            rw [k]; unfold best; rw [h]; rfl
          have e3 : high b.mx v = v := by rw [k]; rfl
          rw [e2, e3, best_high hv]
        · exact high_three h k hv
    simp only [comb, e1, e2, Acc.mk.injEq, true_and]
    omega
theorem comb_start (a : Acc) (h : (a.mn = none ∨ a.mn.nul = false) ∧ (a.mx = none ∨ a.mx.nul = false)) : comb a start = a := by
  obtain ⟨c, hn, mn, mx, t⟩ := a
  have e1 : best (-1) mn none = mn := by
    rcases h.1 with h | h
    · have h : mn = none := h
      rw [h]; rfl
    · have h : mn.nul = false := h
      unfold best; rw [h]; rfl
  have e2 : best 1 mx none = mx := by
    rcases h.2 with h | h
    · have h : mx = none := h
      rw [h]; rfl
    · have h : mx.nul = false := h
      unfold best; rw [h]; rfl
  simp only [comb, start, e1, e2, Bool.or_false, Nat.add_zero, Int.add_zero]
theorem acc_comb (l r : List Val) : acc (l ++ r) = comb (acc l) (acc r) := by
  have key : ∀ (r : List Val) (b : Acc), ((b.mn = none ∨ b.mn.nul = false) ∧ (b.mx = none ∨ b.mx.nul = false)) → r.foldl step (comb (acc l) b) = comb (acc l) (r.foldl step b) := by
    intro r
    induction r with
    | nil => intro b _; rfl
    | cons v r ih =>
      intro b hb
      simp only [List.foldl_cons]
      rw [comb_step _ _ _ (acc_none l) hb]
      refine ih _ ?_
      cases hv : v.nul with
      | true => rw [step_nul hv]; exact hb
      | false => rw [step_some hv]; exact ⟨.inr (low_nul hv), .inr (high_nul hv)⟩
  have h := key r start ⟨.inl rfl, .inl rfl⟩
  rw [comb_start _ (acc_none l)] at h
  have e : acc (l ++ r) = r.foldl step (acc l) := by simp [acc]
  rw [e, h]
  rfl

theorem merge_of (k : Int) (l r : List Val) : ((merge k (of k l) (of k r)).ov = false → merge k (of k l) (of k r) = of k (l ++ r)) ∧
    (⟨(merge k (of k l) (of k r)).c, (merge k (of k l) (of k r)).hn, (merge k (of k l) (of k r)).mn, (merge k (of k l) (of k r)).mx, (of k (l ++ r)).sum, (of k (l ++ r)).ov⟩ : St) = of k (l ++ r) := by
  have e := acc_comb l r
  unfold of
  rw [e]
  cases hk : num k with
  | false =>
    simp only [merge, merged, summed, hk, ofAcc, comb, Bool.false_and, Bool.false_eq_true, if_false, Bool.or_self, Int.natCast_add, implies_true, and_self]
  | true =>
    simp only [merge, merged, summed, hk, ofAcc, comb, Bool.true_and, Bool.not_false, if_true]
    by_cases h1 : In (acc l).t
    · by_cases h2 : In (acc r).t
      · simp only [sumOf, if_pos h1, if_pos h2, Bool.or_self, Bool.not_false, if_true, Int.natCast_add, implies_true, and_self]
      · simp only [sumOf, if_pos h1, if_neg h2, Bool.false_or, Bool.not_true, Bool.false_eq_true, if_false, Int.natCast_add, and_true]
        intro h; cases h
    · simp only [sumOf, if_neg h1, Bool.true_or, Bool.not_true, Bool.false_eq_true, if_false, Int.natCast_add, and_true]
      intro h; cases h

theorem low_mem {m v : Val} {l : List Val} (hm : m = none ∨ m ∈ l) (hv : v ∈ l) : low m v = none ∨ low m v ∈ l := by
  unfold low
  split
  · exact .inr hv
  · exact hm
theorem high_mem {m v : Val} {l : List Val} (hm : m = none ∨ m ∈ l) (hv : v ∈ l) : high m v = none ∨ high m v ∈ l := by
  unfold high
  split
  · exact .inr hv
  · exact hm
theorem acc_mem (l : List Val) : ((acc l).mn = none ∨ (acc l).mn ∈ l) ∧ ((acc l).mx = none ∨ (acc l).mx ∈ l) := by
  have key : ∀ (r : List Val) (a : Acc), (∀ v ∈ r, v ∈ l) → ((a.mn = none ∨ a.mn ∈ l) ∧ (a.mx = none ∨ a.mx ∈ l)) → (((r.foldl step a).mn = none ∨ (r.foldl step a).mn ∈ l) ∧ ((r.foldl step a).mx = none ∨ (r.foldl step a).mx ∈ l)) := by
    intro r
    induction r with
    | nil => intro a _ h; exact h
    | cons v r ih =>
      intro a hr h
      refine ih _ (fun u hu => hr u (List.mem_cons_of_mem _ hu)) ?_
      have hv := hr v List.mem_cons_self
      cases hn : v.nul with
      | true => rw [step_nul hn]; exact h
      | false => rw [step_some hn]; exact ⟨low_mem h.1 hv, high_mem h.2 hv⟩
  exact key l start (fun v h => h) ⟨.inl rfl, .inl rfl⟩
theorem acc_order (l : List Val) : 0 ≤ cmpV (acc l).mx (acc l).mn := by
  have key : ∀ (r : List Val) (a : Acc), Ok a → 0 ≤ cmpV a.mx a.mn → 0 ≤ cmpV (r.foldl step a).mx (r.foldl step a).mn := by
    intro r
    induction r with
    | nil => intro a _ h; exact h
    | cons v r ih =>
      intro a ho h
      refine ih _ (ok_step ho v) ?_
      cases hn : v.nul with
      | true => rw [step_nul hn]; exact h
      | false =>
        rw [step_some hn]
        have a1 := cmpV_anti a.mx a.mn
        have a2 := cmpV_anti v a.mn
        have a3 := cmpV_anti v a.mx
        have s1 := cmpV_self v
        have t1 := fun (h : cmpV v a.mn ≤ 0) (k : cmpV a.mn a.mx ≤ 0) => cmpV_chain h k
        have t2 := fun (h : cmpV a.mn a.mx ≤ 0) (k : cmpV a.mx v ≤ 0) => cmpV_chain h k
        simp only [low, high]
        by_cases hc : a.c = 0
        · have h0 := ho.1 hc
          simp only [h0.1, h0.2, Bool.true_or, if_true]
          omega
        · have h0 := ho.2 hc
          simp only [h0.1, h0.2, Bool.false_or, decide_eq_true_eq]
          split <;> split <;> (try have h6 := t1 (by omega) (by omega)) <;> (try have h7 := t2 (by omega) (by omega)) <;> omega
  exact key l start ⟨fun _ => ⟨rfl, rfl⟩, fun h => absurd rfl h⟩ (by rw [show cmpV start.mx start.mn = 0 from cmpV_self none]; omega)
theorem may_none {k : Int} (h : 1 ≤ k ∧ k ≤ 7) : mayV k none = true := by
  unfold mayV
  rw [decide_eq_true h]
  have e : emp ⟨#[]⟩ = true := by unfold emp; rw [Lib.toList_data]; rfl
  show (decide ((0 : Int) = 0) && emp ⟨#[]⟩) = true
  rw [e]
  rfl
theorem may_of {k : Int} (h : 1 ≤ k ∧ k ≤ 7) {l : List Val} (hl : l.length ≤ 600) (hin : ∀ v ∈ l, In v.n) (hm : ∀ v ∈ l, mayV k v = true) : mayS k (of k l) = true := by
  have hm1 : mayV k (acc l).mn = true := by
    rcases (acc_mem l).1 with e | e
    · rw [e]; exact may_none h
    · exact hm _ e
  have hm2 : mayV k (acc l).mx = true := by
    rcases (acc_mem l).2 with e | e
    · rw [e]; exact may_none h
    · exact hm _ e
  have hok := ok_acc l
  have hc := (acc_in hin).1
  have hn1 : (acc l).mn.nul = decide ((acc l).c = 0) := by
    by_cases h0 : (acc l).c = 0
    · rw [(hok.1 h0).1, decide_eq_true h0]
    · rw [(hok.2 h0).1, decide_eq_false h0]
  have hn2 : (acc l).mx.nul = decide ((acc l).c = 0) := by
    by_cases h0 : (acc l).c = 0
    · rw [(hok.1 h0).2, decide_eq_true h0]
    · rw [(hok.2 h0).2, decide_eq_false h0]
  have hor := acc_order l
  have e : (of k l).c = ((acc l).c : Int) ∧ (of k l).mn = (acc l).mn ∧ (of k l).mx = (acc l).mx := by
    unfold of summed
    split <;> exact ⟨rfl, rfl, rfl⟩
  have es : (if (of k l).ov = true then decide ((of k l).sum = 0) && num k else decide ((of k l).sum = 0) || num k) = true := by
    unfold of summed
    cases num k with
    | false => rfl
    | true =>
      simp only [ofAcc, Bool.true_and, Bool.not_false, if_true, sumOf]
      split <;> simp
  unfold mayS
  rw [e.1, e.2.1, e.2.2, hm1, hm2, es, hn1, hn2]
  simp
  omega
theorem of_bits {k : Int} {l : List Val} (hl : l.length ≤ 600) (hin : ∀ v ∈ l, In v.n) : 0 ≤ (of k l).c ∧ (of k l).c ≤ 600 ∧ In (of k l).sum := by
  have hc := (acc_in hin).1
  unfold of summed
  split
  · refine ⟨by simp [ofAcc], by simp only [ofAcc]; omega, ?_⟩
    simp only [sumOf]
    split
    · assumption
    · unfold In; omega
  · exact ⟨by simp [ofAcc], by simp only [ofAcc]; omega, by simp only [ofAcc]; unfold In; omega⟩
theorem of_vals {k : Int} {l : List Val} (P : Val → Prop) (h0 : P none) (h : ∀ v ∈ l, P v) : P (of k l).mn ∧ P (of k l).mx := by
  have e : (of k l).mn = (acc l).mn ∧ (of k l).mx = (acc l).mx := by
    unfold of summed
    split <;> exact ⟨rfl, rfl⟩
  rw [e.1, e.2]
  constructor
  · rcases (acc_mem l).1 with e | e
    · rw [e]; exact h0
    · exact h _ e
  · rcases (acc_mem l).2 with e | e
    · rw [e]; exact h0
    · exact h _ e
end Go.Proofs.YtdnkclbheimlcaaDoor.st
