/-
  What is read by a list, in plain words: each of its write-ids just once.
-/
import Derived.Test.YtnihladjafnjpaaPlT
namespace Go.Proofs.Ytnihladjafnjpaa
open Go.RowKit

/-- How many of them have an id. -/
def cntI (c : List dr.Dr) (id : Int) : Nat := (c.filter fun d => inD d id).length
theorem cntI_cons (d : dr.Dr) (c : List dr.Dr) (id : Int) : cntI (d :: c) id = (if inD d id then 1 else 0) + cntI c id := by
  unfold cntI
  rw [List.filter_cons]
  split <;> simp <;> omega
theorem inD_iff {d : dr.Dr} {id : Int} : inD d id = true ↔ d.f ≤ id ∧ id ≤ d.t := by
  unfold inD
  rw [Bool.and_eq_true, decide_eq_true_eq, decide_eq_true_eq]
theorem chain_cnt {l : List dr.Dr} {most : Int} {n : Int} {o : List dr.Dr} (h : dr.Chain l most n o) (id : Int) : cntI o id ≤ 1 ∧ (id ≤ n → cntI o id = 0) := by
  induction h with
  | done _ => exact ⟨by simp [cntI], fun _ => by simp [cntI]⟩
  | more hn _ ih =>
    rename_i n d o _
    have hm := dr.may_facts (dr.cand_iff.1 hn.2.1).2.1
    have hf := hn.2.2.1
    rw [cntI_cons]
    by_cases hin : inD d id = true
    · have := inD_iff.1 hin
      have h0 := ih.2 (by omega)
      rw [if_pos hin, h0]
      exact ⟨by omega, fun _ => by omega⟩
    · rw [if_neg hin]
      refine ⟨by omega, fun hle => ?_⟩
      rw [ih.2 (by omega)]
theorem chain_head {l : List dr.Dr} {most : Int} {n : Int} {d : dr.Dr} {o : List dr.Dr} (h : dr.Chain l most n (d :: o)) : d.k = 2 := by
  cases h with
  | more hn _ => exact (dr.cand_iff.1 hn.2.1).1
theorem chosen_cnt {l : List dr.Dr} {most : Int} {o : List dr.Dr} (h : dr.Chosen l most o) (id : Int) : cntI o id ≤ 1 := by
  rcases h with ⟨-, h⟩ | ⟨d, o', ht, rfl, h⟩
  · exact (chain_cnt h id).1
  · have hc := chain_cnt h id
    rw [cntI_cons]
    by_cases hin : inD d id = true
    · have := inD_iff.1 hin
      rw [if_pos hin, hc.2 (by omega)]; omega
    · rw [if_neg hin]; omega
theorem chosen_base {l : List dr.Dr} {most : Int} {d : dr.Dr} {o : List dr.Dr} (h : dr.Chosen l most (d :: o)) (hk : d.k = 1) : d ∈ l := by
  rcases h with ⟨-, h⟩ | ⟨d', o', ht, e, h⟩
  · have := chain_head h; omega
  · injection e with e1 e2
    subst e1
    exact ht.1
theorem allI_at {h : Int → Int → Bool} {l : List Int} (H : allI h l = true) {k : Nat} {x : Int} (hk : l[k]? = some x) : h ((k : Int) + 1) x = true := by
  cases e : h ((k : Int) + 1) x with
  | true => rfl
  | false => rw [allI_false hk e] at H; cases H
theorem cnt_any {c : List dr.Dr} {id : Int} (h : (c.any fun d => inD d id) = true) : 1 ≤ cntI c id := by
  obtain ⟨d, hd, hi⟩ := List.any_eq_true.1 h
  exact List.length_pos_of_mem (List.mem_filter.2 ⟨hd, hi⟩)
/-- What the law asks of one id. -/
theorem read_facts {H : Int} {l s : List Int} {ds c : List dr.Dr} (h : Planned H l s ds c 0) {q : Nat} {st : Int} (hq : s[q]? = some st) :
    cntI c ((q : Int) + 1) ≤ 1 ∧ (has H l ((q : Int) + 1) = true → cntI c ((q : Int) + 1) = 1) ∧
    (∀ d o, c = d :: o → d.k = 1 → (q : Int) + 1 ≤ d.t → st = 2 → has H l ((q : Int) + 1) = true) := by
  rcases h with ⟨-, -, h⟩ | ⟨-, c', hc, ⟨h1, rfl, -⟩ | ⟨-, -, h⟩⟩
  · omega
  · have hcnt := chosen_cnt hc ((q : Int) + 1)
    refine ⟨hcnt, fun hh => ?_, ?_⟩
    · have ha := allI_at h1 hq
      unfold okC at ha
      rw [hh] at ha
      have := cnt_any (by simpa using ha)
      omega
    · rintro d o rfl hk ht hst
      have hm := (List.mem_filter.1 (chosen_base hc hk)).2
      unfold useless at hm
      rw [if_pos hk, Bool.not_not] at hm
      unfold servesI at hm
      rw [Bool.and_eq_true] at hm
      have ha := allI_at hm.2 hq
      unfold okS at ha
      have h1 : decide (d.t < (q : Int) + 1) = false := decide_eq_false (by omega)
      have h2 : decide (st ≠ 2) = false := decide_eq_false (fun h => h hst)
      rw [h1, h2] at ha
      simpa using ha
  · omega
theorem planned_ok {H : Int} {l s : List Int} {ds c : List dr.Dr} (h : Planned H l s ds c 0) : checkI H l s = 0 := by
  rcases h with ⟨-, -, h⟩ | ⟨h, -⟩
  · omega
  · exact h
theorem cnt_take {c : List dr.Dr} {j : Nat} {u : dr.Dr} {id : Int} (h : c[j]? = some u) : cntI (c.take (j + 1)) id = cntI (c.take j) id + (if inD u id then 1 else 0) := by
  unfold cntI
  rw [filter_snoc h]
  split <;> simp
end Go.Proofs.Ytnihladjafnjpaa
