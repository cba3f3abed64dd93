/-
  Directories, walked: where something holds of one, with a closure (written by mk_plc.py).
-/
import Derived.Test.YtnihladjafnjpaaPlB
namespace Go.Proofs.Ytnihladjafnjpaa
open Go.RowKit
set_option linter.unusedVariables false

/-- Where something first holds. -/
def Idx (p : dr.Dr → Bool) (l : List dr.Dr) (x : Int) : Prop := (x = -1 ∧ ∀ d ∈ l, p d = false) ∨ ∃ (i : Nat) (d : dr.Dr), x = (i : Int) ∧ l[i]? = some d ∧ p d = true ∧ ∀ e ∈ l.take i, p e = false
theorem idx_any {p : dr.Dr → Bool} {l : List dr.Dr} {x : Int} (h : Idx p l x) : decide (0 ≤ x) = l.any p := by
  rcases h with ⟨rfl, h⟩ | ⟨i, d, rfl, hd, hp, -⟩
  · symm
    rw [show decide ((0 : Int) ≤ -1) = false from rfl, List.any_eq_false]
    intro d hd
    rw [h d hd]
    simp
  · rw [decide_eq_true (by omega)]
    symm
    rw [List.any_eq_true]
    exact ⟨d, List.mem_of_getElem? hd, hp⟩

set_option maxRecDepth 100000 in
set_option maxHeartbeats 1000000 in
theorem indexf2_any (w : World) (F : Nat) (q0 q1 : Value) (p : dr.Dr → Bool) (A : Option Addr) (n c : Nat) (l : List dr.Dr) (hl : l.length = n) (hn : n ≤ 1000000000) (hr : Row w w.heap.size A (dcs l))
    (hF : ∀ args W, (callFunc F args).run Try.prog W = .ok (.enter F args) W)
    (hcl : ∀ W, Le w W → ∀ d ∈ l, Calls Try.prog F #[.agg #[.int .i64 d.k, .int .i64 d.f, .int .i64 d.t], q0, q1] W fun e W' => e = .returned (.bool (p d)) ∧ Below W.heap.size W W') :
    Calls Try.prog 43 #[.slice A n c, .func (.func F) #[] #[q0, q1]] w fun e w' => ∃ x : Int, e = .returned (.int .i64 x) ∧ Idx p l x ∧ Below w.heap.size w w' := by
  have HL := hide hl
  have HR := hide hr
  have HC := hide hcl
  clear hl hr hcl
  go_enter Try.func43, Try.ntmps43
  go_wp2_with fail
  go_loopw [8] (fun i wr => ∃ j : Nat, i = .int .i64 j ∧ j ≤ n ∧ Hid (∀ e ∈ l.take j, p e = false) ∧ Hid (Le w wr)) (fun i _ => n - (intOf i).toNat)
  case atStart => exact ⟨0, rfl, Nat.zero_le _, hide (fun e he => by simp at he), hide (Below.refl _ _)⟩
  case round =>
    obtain ⟨j, rfl, hj, HG, HB⟩ := hrel
    by_cases hjn : j < n
    · obtain ⟨u, hu⟩ : ∃ u, l[j]? = some u := ⟨_, List.getElem?_eq_getElem (by rw [HL.out]; exact hjn)⟩
      obtain ⟨bA, oA, rfl, hbA, r0, r1, r2⟩ := row_dr HR.out hu
      have e0 : wr.cell? ⟨bA, oA + j * 3, none⟩ = some (.int .i64 u.k) := (HB.out.cell (p := ⟨bA, oA + j * 3, none⟩) hbA).trans r0
      have e1 : wr.cell? ⟨bA, oA + j * 3 + 1, none⟩ = some (.int .i64 u.f) := (HB.out.cell (p := ⟨bA, oA + j * 3 + 1, none⟩) hbA).trans r1
      have e2 : wr.cell? ⟨bA, oA + j * 3 + 2, none⟩ = some (.int .i64 u.t) := (HB.out.cell (p := ⟨bA, oA + j * 3 + 2, none⟩) hbA).trans r2
      have hnj : (j : Int) < n := by omega
      have hcu := hide (HC.out wr HB.out u (List.mem_of_getElem? hu))
      have HU := hide hu
      obtain ⟨v, hv⟩ : ∃ v, p u = v := ⟨_, rfl⟩
      rw [hv] at hcu
      have HV := hide hv
      clear r0 r1 r2 hu hv
      go_wp2_with fail
      refine hcu.out.mono ?_
      rintro e w1 ⟨rfl, hb⟩
      have HL1 := hide (show Le w w1 from HB.out.trans hb)
      clear hb e0 e1 e2
      cases v
      · have HG2 := hide (show ∀ e ∈ l.take (j + 1), p e = false by
          rw [List.take_add_one, HU.out]
          intro e he
          rcases List.mem_append.1 he with he | he
          · exact HG.out e he
          · simp at he
            rw [he]
            exact HV.out)
        go_wp2_with fail
        exact ⟨⟨j + 1, by go_num, by omega, HG2, HL1⟩, by simp [intOf]; omega⟩
      · go_wp2_with fail
        go_ret
        exact ⟨_, rfl, .inr ⟨j, u, rfl, HU.out, HV.out, HG.out⟩, HL1.out⟩
    · obtain rfl : j = n := by omega
      have HF := hide (show ∀ d ∈ l, p d = false by
        have h := HG.out
        rw [List.take_of_length_le (by rw [HL.out]; exact Nat.le_refl _)] at h
        exact h)
      go_wp2_with fail
      go_ret
      exact ⟨_, rfl, .inl ⟨rfl, HF.out⟩, HB.out⟩
#print axioms indexf2_any
set_option maxRecDepth 100000 in
theorem containsf2_any (w : World) (F : Nat) (q0 q1 : Value) (p : dr.Dr → Bool) (A : Option Addr) (n c : Nat) (l : List dr.Dr) (hl : l.length = n) (hn : n ≤ 1000000000) (hr : Row w w.heap.size A (dcs l))
    (hF : ∀ args W, (callFunc F args).run Try.prog W = .ok (.enter F args) W)
    (hcl : ∀ W, Le w W → ∀ d ∈ l, Calls Try.prog F #[.agg #[.int .i64 d.k, .int .i64 d.f, .int .i64 d.t], q0, q1] W fun e W' => e = .returned (.bool (p d)) ∧ Below W.heap.size W W') :
    Calls Try.prog 33 #[.slice A n c, .func (.func F) #[] #[q0, q1]] w fun e w' => e = .returned (.bool (l.any p)) ∧ Below w.heap.size w w' := by
  have hix := hide (indexf2_any w F q0 q1 p A n c l hl hn hr hF hcl)
  clear hl hr hcl
  go_enter Try.func33, Try.ntmps33
  go_wp2_with fail
  refine hix.out.mono ?_
  rintro e w1 ⟨x, rfl, hx, hb⟩
  have HX := hide (idx_any hx)
  have HB := hide hb
  clear hx hb
  go_wp2_with fail
  go_ret
  exact ⟨by rw [← HX.out]; rfl, HB.out⟩
#print axioms containsf2_any

set_option maxRecDepth 100000 in
set_option maxHeartbeats 1000000 in
theorem indexf3_any (w : World) (F : Nat) (q0 q1 q2 : Value) (p : dr.Dr → Bool) (A : Option Addr) (n c : Nat) (l : List dr.Dr) (hl : l.length = n) (hn : n ≤ 1000000000) (hr : Row w w.heap.size A (dcs l))
    (hF : ∀ args W, (callFunc F args).run Try.prog W = .ok (.enter F args) W)
    (hcl : ∀ W, Le w W → ∀ d ∈ l, Calls Try.prog F #[.agg #[.int .i64 d.k, .int .i64 d.f, .int .i64 d.t], q0, q1, q2] W fun e W' => e = .returned (.bool (p d)) ∧ Below W.heap.size W W') :
    Calls Try.prog 43 #[.slice A n c, .func (.func F) #[] #[q0, q1, q2]] w fun e w' => ∃ x : Int, e = .returned (.int .i64 x) ∧ Idx p l x ∧ Below w.heap.size w w' := by
  have HL := hide hl
  have HR := hide hr
  have HC := hide hcl
  clear hl hr hcl
  go_enter Try.func43, Try.ntmps43
  go_wp2_with fail
  go_loopw [8] (fun i wr => ∃ j : Nat, i = .int .i64 j ∧ j ≤ n ∧ Hid (∀ e ∈ l.take j, p e = false) ∧ Hid (Le w wr)) (fun i _ => n - (intOf i).toNat)
  case atStart => exact ⟨0, rfl, Nat.zero_le _, hide (fun e he => by simp at he), hide (Below.refl _ _)⟩
  case round =>
    obtain ⟨j, rfl, hj, HG, HB⟩ := hrel
    by_cases hjn : j < n
    · obtain ⟨u, hu⟩ : ∃ u, l[j]? = some u := ⟨_, List.getElem?_eq_getElem (by rw [HL.out]; exact hjn)⟩
      obtain ⟨bA, oA, rfl, hbA, r0, r1, r2⟩ := row_dr HR.out hu
      have e0 : wr.cell? ⟨bA, oA + j * 3, none⟩ = some (.int .i64 u.k) := (HB.out.cell (p := ⟨bA, oA + j * 3, none⟩) hbA).trans r0
      have e1 : wr.cell? ⟨bA, oA + j * 3 + 1, none⟩ = some (.int .i64 u.f) := (HB.out.cell (p := ⟨bA, oA + j * 3 + 1, none⟩) hbA).trans r1
      have e2 : wr.cell? ⟨bA, oA + j * 3 + 2, none⟩ = some (.int .i64 u.t) := (HB.out.cell (p := ⟨bA, oA + j * 3 + 2, none⟩) hbA).trans r2
      have hnj : (j : Int) < n := by omega
      have hcu := hide (HC.out wr HB.out u (List.mem_of_getElem? hu))
      have HU := hide hu
      obtain ⟨v, hv⟩ : ∃ v, p u = v := ⟨_, rfl⟩
      rw [hv] at hcu
      have HV := hide hv
      clear r0 r1 r2 hu hv
      go_wp2_with fail
      refine hcu.out.mono ?_
      rintro e w1 ⟨rfl, hb⟩
      have HL1 := hide (show Le w w1 from HB.out.trans hb)
      clear hb e0 e1 e2
      cases v
      · have HG2 := hide (show ∀ e ∈ l.take (j + 1), p e = false by
          rw [List.take_add_one, HU.out]
          intro e he
          rcases List.mem_append.1 he with he | he
          · exact HG.out e he
          · simp at he
            rw [he]
            exact HV.out)
        go_wp2_with fail
        exact ⟨⟨j + 1, by go_num, by omega, HG2, HL1⟩, by simp [intOf]; omega⟩
      · go_wp2_with fail
        go_ret
        exact ⟨_, rfl, .inr ⟨j, u, rfl, HU.out, HV.out, HG.out⟩, HL1.out⟩
    · obtain rfl : j = n := by omega
      have HF := hide (show ∀ d ∈ l, p d = false by
        have h := HG.out
        rw [List.take_of_length_le (by rw [HL.out]; exact Nat.le_refl _)] at h
        exact h)
      go_wp2_with fail
      go_ret
      exact ⟨_, rfl, .inl ⟨rfl, HF.out⟩, HB.out⟩
#print axioms indexf3_any
set_option maxRecDepth 100000 in
theorem containsf3_any (w : World) (F : Nat) (q0 q1 q2 : Value) (p : dr.Dr → Bool) (A : Option Addr) (n c : Nat) (l : List dr.Dr) (hl : l.length = n) (hn : n ≤ 1000000000) (hr : Row w w.heap.size A (dcs l))
    (hF : ∀ args W, (callFunc F args).run Try.prog W = .ok (.enter F args) W)
    (hcl : ∀ W, Le w W → ∀ d ∈ l, Calls Try.prog F #[.agg #[.int .i64 d.k, .int .i64 d.f, .int .i64 d.t], q0, q1, q2] W fun e W' => e = .returned (.bool (p d)) ∧ Below W.heap.size W W') :
    Calls Try.prog 33 #[.slice A n c, .func (.func F) #[] #[q0, q1, q2]] w fun e w' => e = .returned (.bool (l.any p)) ∧ Below w.heap.size w w' := by
  have hix := hide (indexf3_any w F q0 q1 q2 p A n c l hl hn hr hF hcl)
  clear hl hr hcl
  go_enter Try.func33, Try.ntmps33
  go_wp2_with fail
  refine hix.out.mono ?_
  rintro e w1 ⟨x, rfl, hx, hb⟩
  have HX := hide (idx_any hx)
  have HB := hide hb
  clear hx hb
  go_wp2_with fail
  go_ret
  exact ⟨by rw [← HX.out]; rfl, HB.out⟩
#print axioms containsf3_any
end Go.Proofs.Ytnihladjafnjpaa
