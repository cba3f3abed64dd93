/-
  The law on columns, walked.
-/
import Derived.Test.YtoembifjgmiamaaDoorSchD
import Derived.Test.YtoembifjgmiamaaDoorMayD
import Derived.Deep.DeepCutAuto
namespace Go.Proofs.YtoembifjgmiamaaDoor
open Go.RowKit
set_option linter.unusedVariables false

theorem ccs_take : ∀ (l : List va.Col) (k : Nat), ccs (l.take k) = (ccs l).take (k * 2)
  | [], k => by simp [ccs]
  | c :: l, 0 => by simp [ccs]
  | c :: l, k + 1 => by
    rw [List.take_succ_cons, ccs_cons, ccs_cons, ccs_take l k, show (k + 1) * 2 = k * 2 + 1 + 1 by omega]
    rfl
theorem vcs_take : ∀ (l : List va.Val) (k : Nat), vcs (l.take k) = (vcs l).take (k * 3)
  | [], k => by simp [vcs]
  | c :: l, 0 => by simp [vcs]
  | c :: l, k + 1 => by
    rw [List.take_succ_cons, vcs_cons, vcs_cons, vcs_take l k, show (k + 1) * 3 = k * 3 + 1 + 1 + 1 by omega]
    rfl
set_option maxRecDepth 100000 in
set_option maxHeartbeats 2000000 in
theorem schemas_walk (w : World) (A : Option Addr) (n c0 : Nat) (l : List va.Col) (hl : l.length = n) (hnc : n ≤ c0) (hn : n ≤ 9223372036854775807) (hs : ∀ c ∈ l, c.name.size ≤ maxLen) (hr : Row w w.heap.size A (ccs l))
    (A' : Option Addr) (m c1 : Nat) (r : List va.Val) (hl' : r.length = m) (hmc : m ≤ c1) (hm : m ≤ 9223372036854775807) (hw : ∀ v ∈ r, (Lit.int .i64 v.n).wf = true ∧ v.s.size ≤ 9223372036854775807) (hr' : Row w w.heap.size A' (vcs r))
    (hT : Tabs8 w) (h : Has255 w) (hz : 0 < w.heap.size) :
    Calls Tryd.prog 6 #[.slice A n c0, .slice A' m c1] w fun e w' => e = .returned (.bool true) ∧ Below w.heap.size w w' := by
  have HL := hide hl
  have HL' := hide hl'
  have HS := hide hs
  have HW := hide hw
  have HR := hide hr
  have HR' := hide hr'
  have HT := hide hT
  clear hl hl' hs hw hr hr' hT
  go_enter Tryd.func6, Tryd.ntmps6
  go_wp2_with fail
  refine (shown_any w h hz).mono ?_
  rintro e w1 ⟨rfl, hb1⟩
  have HB := hide (show Le w w1 from hb1)
  clear hb1
  go_upto_region 2 with fail
  by_cases h1 : 10 < n
  · have d1 : decide (10 < (n : Int)) = true := decide_eq_true (by omega)
    have hc10 : (10 : Int) ≤ (c0 : Int) := by omega
    have hc10' : (10 : Nat) ≤ c0 := by omega
    by_cases h2 : 10 < m
    · have d2 : decide (10 < (m : Int)) = true := decide_eq_true (by omega)
      have hc11 : (10 : Int) ≤ (c1 : Int) := by omega
      have hc11' : (10 : Nat) ≤ c1 := by omega
      have hl1 : (l.take 10).length = 10 := by rw [List.length_take, HL.out]; omega
      have hs1 : ∀ c ∈ l.take 10, c.name.size ≤ maxLen := fun c hc => HS.out c (List.mem_of_mem_take hc)
      have hr1 : Row w w.heap.size A (ccs (l.take 10)) := by rw [ccs_take]; exact HR.out.take _
      have hl2 : (r.take 10).length = 10 := by rw [List.length_take, HL'.out]; omega
      have hw2 : ∀ v ∈ r.take 10, (Lit.int .i64 v.n).wf = true ∧ v.s.size ≤ 9223372036854775807 := fun c hc => HW.out c (List.mem_of_mem_take hc)
      have hr2 : Row w w.heap.size A' (vcs (r.take 10)) := by rw [vcs_take]; exact HR'.out.take _
      have H1 := hide hl1
      have H2 := hide hs1
      have H3 := hide hr1
      have H4 := hide hl2
      have H5 := hide hw2
      have H6 := hide hr2
      clear hl1 hs1 hr1 hl2 hw2 hr2
      go_wp2_with fail
      refine (vschema_any w1 A 10 c0 (l.take 10) H1.out (by omega) H2.out ((HB.out.row H3.out (Nat.le_refl _)).more HB.out.size)).mono ?_
      rintro e w2 ⟨rfl, hb⟩
      have HB2 := hide (show Le w w2 from HB.out.trans hb)
      clear hb
      go_wp2_with fail
      refine (refschema_any w2 A 10 c0 (l.take 10) H1.out (by omega) (fun c hc => by have := H2.out c hc; unfold maxLen at this; omega) ((HB2.out.row H3.out (Nat.le_refl _)).more HB2.out.size)).mono ?_
      rintro e w3 ⟨rfl, hb⟩
      have HB3 := hide (show Le w w3 from HB2.out.trans hb)
      clear hb
      go_wp2_with fail
      refine (vrow_any w3 A 10 c0 (l.take 10) H1.out (by omega) ((HB3.out.row H3.out (Nat.le_refl _)).more HB3.out.size) A' 10 c1 (r.take 10) H4.out (by omega) (fun v hv => (H5.out v hv).1) (fun v hv => (H5.out v hv).2) ((HB3.out.row H6.out (Nat.le_refl _)).more HB3.out.size) (HT.out.le HB3.out)).mono ?_
      rintro e w4 ⟨rfl, hb⟩
      have HB4 := hide (show Le w w4 from HB3.out.trans hb)
      clear hb
      go_wp2_with fail
      refine (refrow_any w4 A 10 c0 (l.take 10) H1.out (by omega) ((HB4.out.row H3.out (Nat.le_refl _)).more HB4.out.size) A' 10 c1 (r.take 10) H4.out (by omega) (fun v hv => (H5.out v hv).2) ((HB4.out.row H6.out (Nat.le_refl _)).more HB4.out.size) (HT.out.le HB4.out)).mono ?_
      rintro e w5 ⟨rfl, hb⟩
      have HB5 := hide (show Le w w5 from HB4.out.trans hb)
      clear hb
      go_wp2_with fail
      go_ret
      exact ⟨rfl, HB5.out⟩
    · have d2 : decide (10 < (m : Int)) = false := decide_eq_false (by omega)
      have hl1 : (l.take 10).length = 10 := by rw [List.length_take, HL.out]; omega
      have hs1 : ∀ c ∈ l.take 10, c.name.size ≤ maxLen := fun c hc => HS.out c (List.mem_of_mem_take hc)
      have hr1 : Row w w.heap.size A (ccs (l.take 10)) := by rw [ccs_take]; exact HR.out.take _
      have hl2 : (r).length = m := by exact HL'.out
      have hw2 : ∀ v ∈ r, (Lit.int .i64 v.n).wf = true ∧ v.s.size ≤ 9223372036854775807 := fun c hc => HW.out c hc
      have hr2 : Row w w.heap.size A' (vcs (r)) := HR'.out
      have H1 := hide hl1
      have H2 := hide hs1
      have H3 := hide hr1
      have H4 := hide hl2
      have H5 := hide hw2
      have H6 := hide hr2
      clear hl1 hs1 hr1 hl2 hw2 hr2
      go_wp2_with fail
      refine (vschema_any w1 A 10 c0 (l.take 10) H1.out (by omega) H2.out ((HB.out.row H3.out (Nat.le_refl _)).more HB.out.size)).mono ?_
      rintro e w2 ⟨rfl, hb⟩
      have HB2 := hide (show Le w w2 from HB.out.trans hb)
      clear hb
      go_wp2_with fail
      refine (refschema_any w2 A 10 c0 (l.take 10) H1.out (by omega) (fun c hc => by have := H2.out c hc; unfold maxLen at this; omega) ((HB2.out.row H3.out (Nat.le_refl _)).more HB2.out.size)).mono ?_
      rintro e w3 ⟨rfl, hb⟩
      have HB3 := hide (show Le w w3 from HB2.out.trans hb)
      clear hb
      go_wp2_with fail
      refine (vrow_any w3 A 10 c0 (l.take 10) H1.out (by omega) ((HB3.out.row H3.out (Nat.le_refl _)).more HB3.out.size) A' m c1 (r) H4.out (by omega) (fun v hv => (H5.out v hv).1) (fun v hv => (H5.out v hv).2) ((HB3.out.row H6.out (Nat.le_refl _)).more HB3.out.size) (HT.out.le HB3.out)).mono ?_
      rintro e w4 ⟨rfl, hb⟩
      have HB4 := hide (show Le w w4 from HB3.out.trans hb)
      clear hb
      go_wp2_with fail
      refine (refrow_any w4 A 10 c0 (l.take 10) H1.out (by omega) ((HB4.out.row H3.out (Nat.le_refl _)).more HB4.out.size) A' m c1 (r) H4.out (by omega) (fun v hv => (H5.out v hv).2) ((HB4.out.row H6.out (Nat.le_refl _)).more HB4.out.size) (HT.out.le HB4.out)).mono ?_
      rintro e w5 ⟨rfl, hb⟩
      have HB5 := hide (show Le w w5 from HB4.out.trans hb)
      clear hb
      go_wp2_with fail
      go_ret
      exact ⟨rfl, HB5.out⟩
  · have d1 : decide (10 < (n : Int)) = false := decide_eq_false (by omega)
    by_cases h2 : 10 < m
    · have d2 : decide (10 < (m : Int)) = true := decide_eq_true (by omega)
      have hc11 : (10 : Int) ≤ (c1 : Int) := by omega
      have hc11' : (10 : Nat) ≤ c1 := by omega
      have hl1 : (l).length = n := by exact HL.out
      have hs1 : ∀ c ∈ l, c.name.size ≤ maxLen := fun c hc => HS.out c hc
      have hr1 : Row w w.heap.size A (ccs (l)) := HR.out
      have hl2 : (r.take 10).length = 10 := by rw [List.length_take, HL'.out]; omega
      have hw2 : ∀ v ∈ r.take 10, (Lit.int .i64 v.n).wf = true ∧ v.s.size ≤ 9223372036854775807 := fun c hc => HW.out c (List.mem_of_mem_take hc)
      have hr2 : Row w w.heap.size A' (vcs (r.take 10)) := by rw [vcs_take]; exact HR'.out.take _
      have H1 := hide hl1
      have H2 := hide hs1
      have H3 := hide hr1
      have H4 := hide hl2
      have H5 := hide hw2
      have H6 := hide hr2
      clear hl1 hs1 hr1 hl2 hw2 hr2
      go_wp2_with fail
      refine (vschema_any w1 A n c0 (l) H1.out (by omega) H2.out ((HB.out.row H3.out (Nat.le_refl _)).more HB.out.size)).mono ?_
      rintro e w2 ⟨rfl, hb⟩
      have HB2 := hide (show Le w w2 from HB.out.trans hb)
      clear hb
      go_wp2_with fail
      refine (refschema_any w2 A n c0 (l) H1.out (by omega) (fun c hc => by have := H2.out c hc; unfold maxLen at this; omega) ((HB2.out.row H3.out (Nat.le_refl _)).more HB2.out.size)).mono ?_
      rintro e w3 ⟨rfl, hb⟩
      have HB3 := hide (show Le w w3 from HB2.out.trans hb)
      clear hb
      go_wp2_with fail
      refine (vrow_any w3 A n c0 (l) H1.out (by omega) ((HB3.out.row H3.out (Nat.le_refl _)).more HB3.out.size) A' 10 c1 (r.take 10) H4.out (by omega) (fun v hv => (H5.out v hv).1) (fun v hv => (H5.out v hv).2) ((HB3.out.row H6.out (Nat.le_refl _)).more HB3.out.size) (HT.out.le HB3.out)).mono ?_
      rintro e w4 ⟨rfl, hb⟩
      have HB4 := hide (show Le w w4 from HB3.out.trans hb)
      clear hb
      go_wp2_with fail
      refine (refrow_any w4 A n c0 (l) H1.out (by omega) ((HB4.out.row H3.out (Nat.le_refl _)).more HB4.out.size) A' 10 c1 (r.take 10) H4.out (by omega) (fun v hv => (H5.out v hv).2) ((HB4.out.row H6.out (Nat.le_refl _)).more HB4.out.size) (HT.out.le HB4.out)).mono ?_
      rintro e w5 ⟨rfl, hb⟩
      have HB5 := hide (show Le w w5 from HB4.out.trans hb)
      clear hb
      go_wp2_with fail
      go_ret
      exact ⟨rfl, HB5.out⟩
    · have d2 : decide (10 < (m : Int)) = false := decide_eq_false (by omega)
      have hl1 : (l).length = n := by exact HL.out
      have hs1 : ∀ c ∈ l, c.name.size ≤ maxLen := fun c hc => HS.out c hc
      have hr1 : Row w w.heap.size A (ccs (l)) := HR.out
      have hl2 : (r).length = m := by exact HL'.out
      have hw2 : ∀ v ∈ r, (Lit.int .i64 v.n).wf = true ∧ v.s.size ≤ 9223372036854775807 := fun c hc => HW.out c hc
      have hr2 : Row w w.heap.size A' (vcs (r)) := HR'.out
      have H1 := hide hl1
      have H2 := hide hs1
      have H3 := hide hr1
      have H4 := hide hl2
      have H5 := hide hw2
      have H6 := hide hr2
      clear hl1 hs1 hr1 hl2 hw2 hr2
      go_wp2_with fail
      refine (vschema_any w1 A n c0 (l) H1.out (by omega) H2.out ((HB.out.row H3.out (Nat.le_refl _)).more HB.out.size)).mono ?_
      rintro e w2 ⟨rfl, hb⟩
      have HB2 := hide (show Le w w2 from HB.out.trans hb)
      clear hb
      go_wp2_with fail
      refine (refschema_any w2 A n c0 (l) H1.out (by omega) (fun c hc => by have := H2.out c hc; unfold maxLen at this; omega) ((HB2.out.row H3.out (Nat.le_refl _)).more HB2.out.size)).mono ?_
      rintro e w3 ⟨rfl, hb⟩
      have HB3 := hide (show Le w w3 from HB2.out.trans hb)
      clear hb
      go_wp2_with fail
      refine (vrow_any w3 A n c0 (l) H1.out (by omega) ((HB3.out.row H3.out (Nat.le_refl _)).more HB3.out.size) A' m c1 (r) H4.out (by omega) (fun v hv => (H5.out v hv).1) (fun v hv => (H5.out v hv).2) ((HB3.out.row H6.out (Nat.le_refl _)).more HB3.out.size) (HT.out.le HB3.out)).mono ?_
      rintro e w4 ⟨rfl, hb⟩
      have HB4 := hide (show Le w w4 from HB3.out.trans hb)
      clear hb
      go_wp2_with fail
      refine (refrow_any w4 A n c0 (l) H1.out (by omega) ((HB4.out.row H3.out (Nat.le_refl _)).more HB4.out.size) A' m c1 (r) H4.out (by omega) (fun v hv => (H5.out v hv).2) ((HB4.out.row H6.out (Nat.le_refl _)).more HB4.out.size) (HT.out.le HB4.out)).mono ?_
      rintro e w5 ⟨rfl, hb⟩
      have HB5 := hide (show Le w w5 from HB4.out.trans hb)
      clear hb
      go_wp2_with fail
      go_ret
      exact ⟨rfl, HB5.out⟩
#print axioms schemas_walk
end Go.Proofs.YtoembifjgmiamaaDoor
