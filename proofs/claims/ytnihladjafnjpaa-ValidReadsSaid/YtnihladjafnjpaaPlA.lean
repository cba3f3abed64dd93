/-
  Directories, walked: as cells; which may be, by the program and by the document; which stands ahead.
-/
import Derived.Test.YtnihladjafnjpaaDrMath
import Derived.Test.YtnihladjafnjpaaListG
import Derived.Deep.DeepCutAuto
namespace Go.Proofs.Ytnihladjafnjpaa
open Go.RowKit
set_option linter.unusedVariables false

def dcell (d : dr.Dr) : Array Value := #[.int .i64 d.k, .int .i64 d.f, .int .i64 d.t]
/-- Directories, as cells. -/
def dcs (l : List dr.Dr) : List Value := l.flatMap fun d => [.int .i64 d.k, .int .i64 d.f, .int .i64 d.t]
theorem dcs_cons (d : dr.Dr) (l : List dr.Dr) : dcs (d :: l) = .int .i64 d.k :: .int .i64 d.f :: .int .i64 d.t :: dcs l := rfl
theorem dcs_at : ∀ {l : List dr.Dr} {k : Nat} {d : dr.Dr}, l[k]? = some d → (dcs l)[k * 3]? = some (.int .i64 d.k) ∧ (dcs l)[k * 3 + 1]? = some (.int .i64 d.f) ∧ (dcs l)[k * 3 + 2]? = some (.int .i64 d.t)
  | [], k, v, h => by simp at h
  | u :: l, 0, v, h => by simp at h; subst h; exact ⟨rfl, rfl, rfl⟩
  | u :: l, k + 1, v, h => by
    rw [dcs_cons, show (k + 1) * 3 = k * 3 + 1 + 1 + 1 by omega]
    simp only [List.getElem?_cons_succ] at h ⊢
    exact dcs_at h
theorem dcs_append (l m : List dr.Dr) : dcs (l ++ m) = dcs l ++ dcs m := by simp [dcs]
theorem dcs_len (l : List dr.Dr) : (dcs l).length = l.length * 3 := by
  induction l with
  | nil => rfl
  | cons a l ih => rw [dcs_cons]; simp only [List.length_cons]; rw [ih]; omega
theorem dcs_take (l : List dr.Dr) : ∀ k : Nat, (dcs l).take (k * 3) = dcs (l.take k) := by
  induction l with
  | nil => intro k; simp [dcs]
  | cons a l ih =>
    intro k
    cases k with
    | zero => simp [dcs]
    | succ k =>
      rw [dcs_cons, show (k + 1) * 3 = k * 3 + 1 + 1 + 1 by omega]
      simp only [List.take_succ_cons]
      rw [dcs_cons, ih k]
theorem dcs_one {l : List dr.Dr} : ∀ u ∈ dcs l, u.oneCell' = true := by
  intro u hu
  obtain ⟨d, -, hd⟩ := List.mem_flatMap.1 hu
  simp only [List.mem_cons, List.not_mem_nil, or_false] at hd
  rcases hd with rfl | rfl | rfl <;> rfl
theorem dr_one (d : dr.Dr) : (dcell d).all (·.oneCell') = true := by simp [dcell, Value.oneCell']
theorem row_dr {w : World} {B : Nat} {A : Option Addr} {l : List dr.Dr} {k : Nat} {d : dr.Dr} (hr : Row w B A (dcs l)) (hk : l[k]? = some d) : ∃ b o, A = some ⟨b, o, none⟩ ∧ b < B ∧ w.cell? ⟨b, o + k * 3, none⟩ = some (.int .i64 d.k) ∧ w.cell? ⟨b, o + k * 3 + 1, none⟩ = some (.int .i64 d.f) ∧ w.cell? ⟨b, o + k * 3 + 2, none⟩ = some (.int .i64 d.t) := by
  obtain ⟨h0, h1, h2⟩ := dcs_at hk
  obtain ⟨b, o, rfl, hb, c0⟩ := hr.at_ h0
  obtain ⟨b', o', e, -, c1⟩ := hr.at_ h1
  simp only [Option.some.injEq, Addr.mk.injEq, and_true] at e
  obtain ⟨rfl, rfl⟩ := e
  obtain ⟨b', o', e, -, c2⟩ := hr.at_ h2
  simp only [Option.some.injEq, Addr.mk.injEq, and_true] at e
  obtain ⟨rfl, rfl⟩ := e
  exact ⟨b, o, rfl, hb, c0, by rw [Nat.add_assoc]; exact c1, by rw [Nat.add_assoc]; exact c2⟩
theorem infoD : (Try.prog.info? 41).map (fun i => (i.zero, i.size, i.bytes)) = some (some (.agg #[.int .i64 0, .int .i64 0, .int .i64 0]), 3, 24) := by kernel_rfl
theorem dbox (w : World) (d : dr.Dr) (t : TypeId) : ∃ W, w.alloc (.cells #[.int .i64 d.k, .int .i64 d.f, .int .i64 d.t] t) = W ∧ Box W w.heap.size #[.int .i64 d.k, .int .i64 d.f, .int .i64 d.t] t ∧ Le w W :=
  ⟨_, rfl, box_new _ _ _, (Below.refl _ _).alloc (Nat.le_refl _) _⟩

theorem may_k1 (f t : Int) : dr.mayD ⟨1, f, t⟩ = (decide (f = 0) && (decide (0 ≤ t) && decide (t ≤ 1073741824))) := by
  unfold dr.mayD
  rw [Bool.eq_iff_iff]
  simp
  omega
theorem may_k4 (f t : Int) : dr.mayD ⟨4, f, t⟩ = (decide (0 ≤ f) && (decide (f ≤ t) && decide (t ≤ 1073741824))) := by
  unfold dr.mayD
  rw [Bool.eq_iff_iff]
  simp
theorem may_k23 (k f t : Int) (h : k = 2 ∨ k = 3) : dr.mayD ⟨k, f, t⟩ = (decide (1 ≤ f) && (decide (f ≤ t) && decide (t ≤ 1073741824))) := by
  unfold dr.mayD
  rw [Bool.eq_iff_iff]
  rcases h with rfl | rfl <;> simp <;> omega
theorem may_k0 (k f t : Int) (h1 : k ≠ 1) (h2 : k ≠ 2) (h3 : k ≠ 3) (h4 : k ≠ 4) : dr.mayD ⟨k, f, t⟩ = false := by
  unfold dr.mayD
  rw [Bool.eq_false_iff]
  simp
  omega

set_option maxRecDepth 100000 in
set_option maxHeartbeats 2000000 in
theorem dmay_any (w : World) (d : dr.Dr) : Calls Try.prog 40 #[.agg #[.int .i64 d.k, .int .i64 d.f, .int .i64 d.t]] w fun e w' => e = .returned (.bool (dr.mayD d)) ∧ Below w.heap.size w w' := by
  obtain ⟨k, f, t⟩ := d
  obtain ⟨W, hW, bx, hb⟩ := dbox w ⟨k, f, t⟩ 41
  simp only at hW bx ⊢
  have HW := hide hW
  have HB := hide hb
  have c0 := bx.cell 0 (.int .i64 k) rfl
  have c1 := bx.cell 1 (.int .i64 f) rfl
  have c2 := bx.cell 2 (.int .i64 t) rfl
  clear hW bx hb
  obtain ⟨p0, h0⟩ : ∃ b, (f == 0) = b := ⟨_, rfl⟩
  obtain ⟨p1, h1⟩ : ∃ b, decide (0 ≤ t) = b := ⟨_, rfl⟩
  obtain ⟨p2, h2⟩ : ∃ b, decide (t ≤ 1073741824) = b := ⟨_, rfl⟩
  obtain ⟨p3, h3⟩ : ∃ b, decide (1 ≤ f) = b := ⟨_, rfl⟩
  obtain ⟨p4, h4⟩ : ∃ b, decide (0 ≤ f) = b := ⟨_, rfl⟩
  obtain ⟨p5, h5⟩ : ∃ b, decide (f ≤ t) = b := ⟨_, rfl⟩
  have hp0 : decide (f = 0) = p0 := by rw [← h0]; rfl
  go_enter Try.func40, Try.ntmps40
  by_cases k1 : k = 1
  · subst k1
    have HR := hide (show dr.mayD ⟨1, f, t⟩ = (p0 && (p1 && p2)) by rw [may_k1, hp0, h1, h2])
    clear hp0
    cases p0 <;> cases p1
    all_goals
      go_wp2_with fail
      rw [HW.out]
      go_ret
      exact ⟨by rw [HR.out]; rfl, HB.out⟩
  · have e1 : (k == 1) = false := by simpa using k1
    by_cases k4 : k = 4
    · subst k4
      have HR := hide (show dr.mayD ⟨4, f, t⟩ = (p4 && (p5 && p2)) by rw [may_k4, h4, h5, h2])
      clear hp0 k1 e1
      cases p4 <;> cases p5
      all_goals
        go_wp2_with fail
        rw [HW.out]
        go_ret
        exact ⟨by rw [HR.out]; rfl, HB.out⟩
    · have e4 : (k == 4) = false := by simpa using k4
      by_cases k2 : k = 2
      · subst k2
        have HR := hide (show dr.mayD ⟨2, f, t⟩ = (p3 && (p5 && p2)) by rw [may_k23 2 f t (.inl rfl), h3, h5, h2])
        clear hp0 k1 k4 e1 e4
        cases p3 <;> cases p5
        all_goals
          go_wp2_with fail
          rw [HW.out]
          go_ret
          exact ⟨by rw [HR.out]; rfl, HB.out⟩
      · have e2 : (k == 2) = false := by simpa using k2
        by_cases k3 : k = 3
        · subst k3
          have HR := hide (show dr.mayD ⟨3, f, t⟩ = (p3 && (p5 && p2)) by rw [may_k23 3 f t (.inr rfl), h3, h5, h2])
          clear hp0 k1 k2 k4 e1 e2 e4
          cases p3 <;> cases p5
          all_goals
            go_wp2_with fail
            rw [HW.out]
            go_ret
            exact ⟨by rw [HR.out]; rfl, HB.out⟩
        · have e3 : (k == 3) = false := by simpa using k3
          have HR := hide (may_k0 k f t k1 k2 k3 k4)
          clear hp0
          go_wp2_with fail
          rw [HW.out]
          go_ret
          exact ⟨by rw [HR.out]; rfl, HB.out⟩
#print axioms dmay_any

set_option maxRecDepth 100000 in
set_option maxHeartbeats 2000000 in
theorem refdmay_any (w : World) (d : dr.Dr) : Calls Try.prog 44 #[.agg #[.int .i64 d.k, .int .i64 d.f, .int .i64 d.t]] w fun e w' => e = .returned (.bool (dr.mayD d)) ∧ Below w.heap.size w w' := by
  obtain ⟨k, f, t⟩ := d
  obtain ⟨W, hW, bx, hb⟩ := dbox w ⟨k, f, t⟩ 41
  simp only at hW bx ⊢
  have HW := hide hW
  have HB := hide hb
  have c0 := bx.cell 0 (.int .i64 k) rfl
  have c1 := bx.cell 1 (.int .i64 f) rfl
  have c2 := bx.cell 2 (.int .i64 t) rfl
  clear hW bx hb
  obtain ⟨p1, h1⟩ : ∃ b, decide (k < 1) = b := ⟨_, rfl⟩
  obtain ⟨p2, h2⟩ : ∃ b, decide (4 < k) = b := ⟨_, rfl⟩
  obtain ⟨p3, h3⟩ : ∃ b, decide (f < 0) = b := ⟨_, rfl⟩
  obtain ⟨p4, h4⟩ : ∃ b, decide (1073741824 < t) = b := ⟨_, rfl⟩
  obtain ⟨p5, h5⟩ : ∃ b, decide (t < f) = b := ⟨_, rfl⟩
  obtain ⟨p6, h6⟩ : ∃ b, (k == 1) = b := ⟨_, rfl⟩
  obtain ⟨p7, h7⟩ : ∃ b, (f == 0) = b := ⟨_, rfl⟩
  obtain ⟨p8, h8⟩ : ∃ b, (k == 4) = b := ⟨_, rfl⟩
  obtain ⟨p9, h9⟩ : ∃ b, decide (1 ≤ f) = b := ⟨_, rfl⟩
  have HR := hide (show dr.mayD ⟨k, f, t⟩ = (!(p1 || (p2 || (p3 || (p4 || p5)))) && (bif p6 then p7 else (p8 || p9))) by
    rw [← h1, ← h2, ← h3, ← h4, ← h5, ← h6, ← h7, ← h8, ← h9]
    unfold dr.mayD
    simp only
    by_cases hk : k = 1
    · subst hk
      rw [Bool.eq_iff_iff]
      simp
      omega
    · rw [if_neg hk, Bool.eq_iff_iff]
      have : (k == 1) = false := by simpa using hk
      simp [this]
      omega)
  go_enter Try.func44, Try.ntmps44
  cases p1
  · cases p2
    · cases p3
      · cases p4
        · cases p5
          · cases p6
            · cases p8
              all_goals
                go_wp2_with fail
                rw [HW.out]
                go_ret
                exact ⟨by rw [HR.out]; rfl, HB.out⟩
            · go_wp2_with fail
              rw [HW.out]
              go_ret
              exact ⟨by rw [HR.out]; rfl, HB.out⟩
          · go_wp2_with fail
            rw [HW.out]
            go_ret
            exact ⟨by rw [HR.out]; rfl, HB.out⟩
        · go_wp2_with fail
          rw [HW.out]
          go_ret
          exact ⟨by rw [HR.out]; rfl, HB.out⟩
      · go_wp2_with fail
        rw [HW.out]
        go_ret
        exact ⟨by rw [HR.out]; rfl, HB.out⟩
    · go_wp2_with fail
      rw [HW.out]
      go_ret
      exact ⟨by rw [HR.out]; rfl, HB.out⟩
  · go_wp2_with fail
    rw [HW.out]
    go_ret
    exact ⟨by rw [HR.out]; rfl, HB.out⟩
#print axioms refdmay_any

set_option maxRecDepth 100000 in
theorem ahead_any (w : World) (a b : dr.Dr) (ha : 0 ≤ a.f ∧ a.f ≤ 1073741824 ∧ 0 ≤ a.t ∧ a.t ≤ 1073741824) (hb : 0 ≤ b.f ∧ b.f ≤ 1073741824 ∧ 0 ≤ b.t ∧ b.t ≤ 1073741824) :
    Calls Try.prog 42 #[.agg #[.int .i64 a.k, .int .i64 a.f, .int .i64 a.t], .agg #[.int .i64 b.k, .int .i64 b.f, .int .i64 b.t]] w
      fun e w' => e = .returned (.int .i64 (if a.f ≠ b.f then a.f - b.f else b.t - a.t)) ∧ Below w.heap.size w w' := by
  obtain ⟨ak, af, at_⟩ := a
  obtain ⟨bk, bf, bt⟩ := b
  simp only at ha hb ⊢
  obtain ⟨W, hW⟩ : ∃ W, (w.alloc (.cells #[.int .i64 ak, .int .i64 af, .int .i64 at_] 41)).alloc (.cells #[.int .i64 bk, .int .i64 bf, .int .i64 bt] 41) = W := ⟨_, rfl⟩
  obtain ⟨b1, hw1⟩ : ∃ b, (af != bf) = b := ⟨_, rfl⟩
  have HB := hide (show Le w W by rw [← hW]; exact ((Below.refl _ _).alloc (Nat.le_refl _) _).alloc (by simp) _)
  obtain ⟨r, hr⟩ : ∃ r, (if af ≠ bf then af - bf else bt - at_) = r := ⟨_, rfl⟩
  rw [hr]
  have HA1 := hide (show b1 = true → wrap64 (af - bf) = r from fun h => by
    rw [h] at hw1
    have hne : af ≠ bf := by simpa using hw1
    rw [if_pos hne] at hr
    unfold wrap64
    omega)
  have HA2 := hide (show b1 = false → wrap64 (bt - at_) = r from fun h => by
    rw [h] at hw1
    have hne : ¬ af ≠ bf := by simpa using hw1
    rw [if_neg hne] at hr
    unfold wrap64
    omega)
  have HW := hide hW
  clear hW ha hb hr
  go_enter Try.func42, Try.ntmps42
  cases b1
  · go_wp2_with fail
    rw [HW.out]
    go_ret
    exact ⟨ret_int (by have h := HA2.out; simpa using h), HB.out⟩
  · go_wp2_with fail
    rw [HW.out]
    go_ret
    exact ⟨ret_int (by have h := HA1.out; simpa using h), HB.out⟩
#print axioms ahead_any
end Go.Proofs.Ytnihladjafnjpaa
