/-
  The document's examples of records, and the law on what records come to, walked.
-/
import Derived.Test.YtocpeiocgppkfaaTxE
import Derived.Test.YtocpeiocgppkfaaTxShape
namespace Go.Proofs.Ytocpeiocgppkfaa
open Go.RowKit
set_option linter.unusedVariables false

theorem ours_few (w : World) (A : Option Addr) (n c : Nat) (l : List (Int × Int)) (hl : l.length = n) (hn : n ≤ 60) (hr : Row w w.heap.size A (rcs l)) :
    Calls Try.prog 10 #[.slice A n c] w (Gives w.heap.size 35 2 n (rcs l) w) := by
  have h := ours_any w A n c l hl (by omega) hr
  rw [Nat.min_eq_left hn, List.take_of_length_le (by omega)] at h
  exact h
theorem own_row {w : World} {base size n c : Nat} {e : TypeId} {A : Option Addr} {xs : List Value} (h : w.ownsRow base e size (.slice A n c) n xs) : Row w w.heap.size A xs := Row.of_own h

def exA : List (Int × Int) := [(1, 1), (1, 2), (2, 1), (1, 3)]
def exB : List (Int × Int) := [(2, 1)]
theorem exA_run : tx.run exA = some [2, 1, 1] := by decide
theorem exB_run : tx.run exB = none := by decide
theorem ex_limit : tx.limit [2, 1, 1] = 1 := by decide

set_option maxHeartbeats 4000000 in
theorem shown_any (w : World) : Calls Try.prog 7 #[] w fun e w' => e = .returned (.bool true) ∧ Below w.heap.size w w' := by
  go_enter Try.func7, Try.ntmps7
  go_wp2_with fail
  obtain ⟨W, hW⟩ : ∃ W, w.alloc (.cells #[.int .i64 1, .int .i64 1, .int .i64 1, .int .i64 2, .int .i64 2, .int .i64 1, .int .i64 1, .int .i64 3] 35) = W := ⟨_, rfl⟩
  have hrow : Row W W.heap.size (some ⟨w.heap.size, 0, none⟩) (rcs exA) := by
    rw [← hW]
    exact (row_new w #[.int .i64 1, .int .i64 1, .int .i64 1, .int .i64 2, .int .i64 2, .int .i64 1, .int .i64 1, .int .i64 3] 35 (0, 0)).more (by simp)
  have hb : Le w W := by rw [← hW]; exact (Below.refl _ _).alloc (Nat.le_refl _) _
  rw [hW]
  have HB := hide hb
  clear hW hb
  refine (states_any W _ 4 4 exA rfl (by omega) hrow).mono ?_
  rintro e w1 ⟨v1, rfl, hown1, hb1⟩
  rw [(tx.res_some exA_run).1] at hown1
  rw [(tx.res_some exA_run).2]
  obtain ⟨A1, c1, rfl, hc1, -⟩ := own_form hown1
  obtain ⟨g, cap, hv, hge, hlt⟩ := hown1.form (by simp)
  have hA : A1 = some ⟨g, 0, none⟩ := by injection hv
  subst hA
  have HO1 := hide (show w1.ownsRow W.heap.size 3 1 (.slice (some ⟨g, 0, none⟩) 3 c1) 3 (ints [2, 1, 1]) from hown1)
  have HB1 := hide (show Le w w1 from HB.out.trans hb1)
  clear hown1 hb1 hv hrow
  go_wp2_with fail
  obtain ⟨X, hX⟩ : ∃ X, w1.alloc (.cells #[.int .i64 2, .int .i64 1] 35) = X := ⟨_, rfl⟩
  have hrow : Row X X.heap.size (some ⟨w1.heap.size, 0, none⟩) (rcs exB) := by
    rw [← hX]
    exact (row_new w1 #[.int .i64 2, .int .i64 1] 35 (0, 0)).more (by simp)
  have hb : Le w1 X := by rw [← hX]; exact (Below.refl _ _).alloc (Nat.le_refl _) _
  rw [hX]
  clear hX
  refine (states_any X _ 1 1 exB rfl (by omega) hrow).mono ?_
  rintro e w2 ⟨v2, rfl, hown2, hb2⟩
  rw [(tx.res_none exB_run).2]
  have L12 := hide (show Le w1 w2 from hb.trans hb2)
  have hk0 : w2.cell? ⟨g, 0, none⟩ = some (.int .i64 2) := (L12.out.cell (p := ⟨g, 0, none⟩) hlt).trans (by rw [HO1.out.cellAt 0 (by omega)]; rfl)
  have hk1 : w2.cell? ⟨g, 1, none⟩ = some (.int .i64 1) := (L12.out.cell (p := ⟨g, 1, none⟩) hlt).trans (by rw [HO1.out.cellAt 1 (by omega)]; rfl)
  have hk2 : w2.cell? ⟨g, 2, none⟩ = some (.int .i64 1) := (L12.out.cell (p := ⟨g, 2, none⟩) hlt).trans (by rw [HO1.out.cellAt 2 (by omega)]; rfl)
  clear hown2 hb2 hb hrow
  go_wp2_with fail
  refine (limit_any w2 _ 3 c1 [2, 1, 1] rfl (by omega) ((L12.out.row (Row.of_own HO1.out) (Nat.le_refl _)).more L12.out.size)).mono ?_
  rintro e w' ⟨rfl, rfl⟩
  rw [ex_limit]
  have HF := hide (show Below w.heap.size w w2 from HB1.out.trans L12.out)
  go_wp2_with fail
  go_ret
  exact ⟨rfl, HF.out⟩
#print axioms shown_any

set_option maxHeartbeats 8000000 in
theorem states_walk (w : World) (A B : Option Addr) (n c m d : Nat) (l : List (Int × Int)) (s : List Int) (op id : Int) (hl : l.length = n) (hnc : n ≤ c) (hc : c ≤ maxLen) (hs : s.length = m) (hmd : m ≤ d) (hd : d ≤ maxLen) (hr : Row w w.heap.size A (rcs l)) (hrs : Row w w.heap.size B (ints s)) :
    Calls Try.prog 3 #[.slice A n c, .slice B m d, .agg #[.int .i64 op, .int .i64 id]] w fun e w' => e = .returned (.bool true) ∧ Below w.heap.size w w' := by
  obtain ⟨m2, hm2⟩ : ∃ m2, min m 60 = m2 := ⟨_, rfl⟩
  have HS := hide (show (s.take 60).length = m2 by rw [List.length_take, hs, ← hm2]; omega)
  have hrs2 := hrs.take 60
  rw [ints_take] at hrs2
  generalize s.take 60 = s2 at HS hrs2
  have hm60 : m2 ≤ 60 := by omega
  have HM2 := hide hm2
  have hr2 : Row w w.heap.size A (rcs (l.take 60)) := by rw [← rcs_take]; exact hr.take _
  have hlen2 : (l.take 60).length = min n 60 := by rw [List.length_take, hl]; omega
  generalize l.take 60 = l2 at hr2 hlen2
  clear hs hrs hm2 hl hr
  obtain ⟨W, hW⟩ : ∃ W, w.alloc (.cells #[.int .i64 op, .int .i64 id] 25) = W := ⟨_, rfl⟩
  have bx : Box W w.heap.size #[.int .i64 op, .int .i64 id] 25 := by rw [← hW]; exact box_new _ _ _
  have hLW : Le w W := by rw [← hW]; exact (Below.refl _ _).alloc (Nat.le_refl _) _
  have HW := hide hW
  have HLW := hide hLW
  have HBX := hide bx
  unfold maxLen at hc
  clear hW hLW bx
  go_enter Try.func3, Try.ntmps3
  go_wp2_with fail
  rw [HW.out]
  refine (shown_any W).mono ?_
  rintro e w1 ⟨rfl, hb1⟩
  have HBX1 := hide (HBX.out.below hb1 HBX.out.lt)
  have HL1 := hide (show Le w w1 from HLW.out.trans hb1)
  clear hb1 HBX HLW
  go_wp2_with fail
  refine (few_any w1 B m d hmd hd).mono ?_
  rintro e w' ⟨rfl, rfl⟩
  rw [HM2.out]
  by_cases h60 : 60 < n
  · have HL2 := hide (show l2.length = 60 by omega)
    have hnI : (60 : Int) < n := by omega
    go_wp2_with fail
    refine (ours_few w1 A 60 c l2 HL2.out (by omega) ((HL1.out.row hr2 (Nat.le_refl _)).more HL1.out.size)).mono ?_
    rintro e w2 ⟨v2, rfl, hown2, hb2⟩
    obtain ⟨A2, c2, rfl, -, -⟩ := own_form hown2
    have HR2 := hide (Row.of_own hown2)
    have HL12 := hide (show Le w1 w2 from hb2)
    clear hown2 hb2
    go_wp2_with fail
    refine (states_any w2 A2 60 c2 l2 HL2.out (by omega) HR2.out).mono ?_
    rintro e w3 ⟨v3, rfl, hown3, hb3⟩
    obtain ⟨A3, c3, rfl, -, -⟩ := own_form hown3
    have HR3 := hide (Row.of_own hown3)
    have HL13 := hide (show Le w1 w3 from HL12.out.trans hb3)
    clear hown3 hb3 HL12 HR2
    go_wp2_with fail
    refine (refstates_any w3 A 60 c l2 HL2.out (by omega) (((HL1.out.trans HL13.out).row hr2 (Nat.le_refl _)).more (HL1.out.trans HL13.out).size)).mono ?_
    rintro e w4 ⟨v4, rfl, hown4, hb4⟩
    obtain ⟨A4, c4, rfl, -, -⟩ := own_form hown4
    have HR4 := hide (Row.of_own hown4)
    have HL34 := hide (show Le w3 w4 from hb4)
    have HL04 := hide (HL1.out.trans (HL13.out.trans HL34.out))
    have HBX4 := hide (HBX1.out.below (HL13.out.trans HL34.out) HBX1.out.lt)
    clear hown4 hb4 HBX1
    go_wp2_with (at_builtin; refine wpList_append_row _ rfl (.tmp 39) (.tmp 40) 23 rfl w4.heap.size 3 infoI Try.underlying23 rfl (by omega) _ 0 [] rfl (World.ownsRow_lit _ #[] 0 (Nat.le_refl _) (by simp) rfl) w.heap.size B m2 d (ints s2) rfl (by rw [ints_len, HS.out, Nat.mul_one]) ((HL04.out.row hrs2 (Nat.le_refl _)).alloc HL04.out.size _) ints_one (by simp only [maxLen]; omega) (by omega) (by simp) ?_; intro v5 w5 hown5 hg5 hat5; rw [Nat.zero_add, List.nil_append] at hown5; obtain ⟨A5, c5, rfl, hc5, hc5'⟩ := own_form hown5; have HL45 := hide (show Le w4 w5 from ((Below.refl _ _).alloc (Nat.le_refl _) _).grown hg5 (by simp) (fun g hg => blk_ge hg (Nat.le_refl _))); have HR5 := hide (Row.of_own hown5); have hbx5 := HBX4.out.below HL45.out HBX4.out.lt; have e0 := hbx5.cell 0 (.int .i64 op) rfl; have e1 := hbx5.cell 1 (.int .i64 id) rfl; have HBX5 := hide hbx5; clear hown5 hg5 hat5 hbx5)
    refine (next_any w5 A5 m2 c5 s2 op id HS.out (by omega) HR5.out).mono ?_
    rintro e w6 ⟨v6, rfl, hown6, hb6⟩
    have hlen6 := tx.next_len s2 op id
    rw [HS.out] at hlen6
    obtain ⟨m6, hm6⟩ : ∃ m6, (tx.next s2 op id).1.length = m6 := ⟨_, rfl⟩
    rw [hm6] at hown6 hlen6
    obtain ⟨A6, c6, rfl, -, -⟩ := own_form hown6
    have HM6 := hide hm6
    have HR6 := hide (Row.of_own hown6)
    have HL56 := hide (show Le w5 w6 from hb6)
    have HL06 := hide (HL04.out.trans (HL45.out.trans HL56.out))
    have hbx6 := HBX5.out.below HL56.out HBX5.out.lt
    have f0 := hbx6.cell 0 (.int .i64 op) rfl
    have f1 := hbx6.cell 1 (.int .i64 id) rfl
    clear hown6 hb6 hbx6 HBX5 HBX4 hm6 e0 e1
    go_wp2_with fail
    refine (refnext_any w6 B m2 d s2 op id HS.out (by omega) ((HL06.out.row hrs2 (Nat.le_refl _)).more HL06.out.size)).mono ?_
    rintro e w7 ⟨v7, rfl, hown7, hb7⟩
    rw [HM6.out] at hown7
    obtain ⟨A7, c7, rfl, -, -⟩ := own_form hown7
    have HR7 := hide (Row.of_own hown7)
    have HL67 := hide (show Le w6 w7 from hb7)
    have HL57 := hide (HL56.out.trans HL67.out)
    have HL47 := hide (HL45.out.trans HL57.out)
    have HL37 := hide (HL34.out.trans HL47.out)
    clear hown7 hb7 f0 f1
    have hres := tx.res_len l2
    rw [HL2.out] at hres
    obtain ⟨m3, hm3⟩ : ∃ m3, (tx.res l2).length = m3 := ⟨_, rfl⟩
    rw [hm3] at hres ⊢
    have HM3 := hide hm3
    clear hm3
    go_wp2_with fail
    refine (same_any w7 A3 A4 m3 c3 c4 (tx.res l2) HM3.out (by omega) ((HL37.out.row HR3.out (Nat.le_refl _)).more HL37.out.size) ((HL47.out.row HR4.out (Nat.le_refl _)).more HL47.out.size)).mono ?_
    rintro e w8 ⟨rfl, hb8⟩
    have HL78 := hide (show Le w7 w8 from hb8)
    clear hb8
    go_wp2_with fail
    refine (same_any w8 A6 A7 m6 c6 c7 (tx.next s2 op id).1 HM6.out (by omega) (((HL67.out.trans HL78.out).row HR6.out (Nat.le_refl _)).more (HL67.out.trans HL78.out).size) ((HL78.out.row HR7.out (Nat.le_refl _)).more HL78.out.size)).mono ?_
    rintro e w9 ⟨rfl, hb9⟩
    have HL79 := hide (HL78.out.trans hb9)
    have HL09 := hide (HL06.out.trans (HL67.out.trans HL79.out))
    clear hb9
    go_wp2_with fail
    refine (same_any w9 A5 B m2 c5 d s2 HS.out (by omega) (((HL57.out.trans HL79.out).row HR5.out (Nat.le_refl _)).more (HL57.out.trans HL79.out).size) ((HL09.out.row hrs2 (Nat.le_refl _)).more HL09.out.size)).mono ?_
    rintro e w10 ⟨rfl, hb10⟩
    have HL10 := hide (show Le w w10 from HL09.out.trans hb10)
    clear hb10
    obtain ⟨E1, hE1⟩ : ∃ E1, tx.err l2 = E1 := ⟨_, rfl⟩
    obtain ⟨E2, hE2⟩ : ∃ E2, (tx.next s2 op id).2 = E2 := ⟨_, rfl⟩
    rw [hE1, hE2]
    clear hE1 hE2
    go_wp2_with fail
    refine (limit_any w10 B m2 d s2 HS.out (by omega) ((HL10.out.row hrs2 (Nat.le_refl _)).more HL10.out.size)).mono ?_
    rintro e w' ⟨rfl, rfl⟩
    obtain ⟨q, hq⟩ : ∃ q, tx.limit s2 = q := ⟨_, rfl⟩
    rw [hq]
    have HQ := hide hq
    clear hq
    go_wp2_with fail
    refine (reflimit_any w10 B m2 d s2 HS.out (by omega) ((HL10.out.row hrs2 (Nat.le_refl _)).more HL10.out.size)).mono ?_
    rintro e w' ⟨rfl, rfl⟩
    rw [HQ.out]
    go_wp2_with fail
    go_ret
    exact ⟨rfl, HL10.out⟩
  · have HL2 := hide (show l2.length = n by omega)
    have hn60 : n ≤ 60 := by omega
    go_wp2_with fail
    refine (ours_few w1 A n c l2 HL2.out (by omega) ((HL1.out.row hr2 (Nat.le_refl _)).more HL1.out.size)).mono ?_
    rintro e w2 ⟨v2, rfl, hown2, hb2⟩
    obtain ⟨A2, c2, rfl, -, -⟩ := own_form hown2
    have HR2 := hide (Row.of_own hown2)
    have HL12 := hide (show Le w1 w2 from hb2)
    clear hown2 hb2
    go_wp2_with fail
    refine (states_any w2 A2 n c2 l2 HL2.out (by omega) HR2.out).mono ?_
    rintro e w3 ⟨v3, rfl, hown3, hb3⟩
    obtain ⟨A3, c3, rfl, -, -⟩ := own_form hown3
    have HR3 := hide (Row.of_own hown3)
    have HL13 := hide (show Le w1 w3 from HL12.out.trans hb3)
    clear hown3 hb3 HL12 HR2
    go_wp2_with fail
    refine (refstates_any w3 A n c l2 HL2.out (by omega) (((HL1.out.trans HL13.out).row hr2 (Nat.le_refl _)).more (HL1.out.trans HL13.out).size)).mono ?_
    rintro e w4 ⟨v4, rfl, hown4, hb4⟩
    obtain ⟨A4, c4, rfl, -, -⟩ := own_form hown4
    have HR4 := hide (Row.of_own hown4)
    have HL34 := hide (show Le w3 w4 from hb4)
    have HL04 := hide (HL1.out.trans (HL13.out.trans HL34.out))
    have HBX4 := hide (HBX1.out.below (HL13.out.trans HL34.out) HBX1.out.lt)
    clear hown4 hb4 HBX1
    go_wp2_with (at_builtin; refine wpList_append_row _ rfl (.tmp 39) (.tmp 40) 23 rfl w4.heap.size 3 infoI Try.underlying23 rfl (by omega) _ 0 [] rfl (World.ownsRow_lit _ #[] 0 (Nat.le_refl _) (by simp) rfl) w.heap.size B m2 d (ints s2) rfl (by rw [ints_len, HS.out, Nat.mul_one]) ((HL04.out.row hrs2 (Nat.le_refl _)).alloc HL04.out.size _) ints_one (by simp only [maxLen]; omega) (by omega) (by simp) ?_; intro v5 w5 hown5 hg5 hat5; rw [Nat.zero_add, List.nil_append] at hown5; obtain ⟨A5, c5, rfl, hc5, hc5'⟩ := own_form hown5; have HL45 := hide (show Le w4 w5 from ((Below.refl _ _).alloc (Nat.le_refl _) _).grown hg5 (by simp) (fun g hg => blk_ge hg (Nat.le_refl _))); have HR5 := hide (Row.of_own hown5); have hbx5 := HBX4.out.below HL45.out HBX4.out.lt; have e0 := hbx5.cell 0 (.int .i64 op) rfl; have e1 := hbx5.cell 1 (.int .i64 id) rfl; have HBX5 := hide hbx5; clear hown5 hg5 hat5 hbx5)
    refine (next_any w5 A5 m2 c5 s2 op id HS.out (by omega) HR5.out).mono ?_
    rintro e w6 ⟨v6, rfl, hown6, hb6⟩
    have hlen6 := tx.next_len s2 op id
    rw [HS.out] at hlen6
    obtain ⟨m6, hm6⟩ : ∃ m6, (tx.next s2 op id).1.length = m6 := ⟨_, rfl⟩
    rw [hm6] at hown6 hlen6
    obtain ⟨A6, c6, rfl, -, -⟩ := own_form hown6
    have HM6 := hide hm6
    have HR6 := hide (Row.of_own hown6)
    have HL56 := hide (show Le w5 w6 from hb6)
    have HL06 := hide (HL04.out.trans (HL45.out.trans HL56.out))
    have hbx6 := HBX5.out.below HL56.out HBX5.out.lt
    have f0 := hbx6.cell 0 (.int .i64 op) rfl
    have f1 := hbx6.cell 1 (.int .i64 id) rfl
    clear hown6 hb6 hbx6 HBX5 HBX4 hm6 e0 e1
    go_wp2_with fail
    refine (refnext_any w6 B m2 d s2 op id HS.out (by omega) ((HL06.out.row hrs2 (Nat.le_refl _)).more HL06.out.size)).mono ?_
    rintro e w7 ⟨v7, rfl, hown7, hb7⟩
    rw [HM6.out] at hown7
    obtain ⟨A7, c7, rfl, -, -⟩ := own_form hown7
    have HR7 := hide (Row.of_own hown7)
    have HL67 := hide (show Le w6 w7 from hb7)
    have HL57 := hide (HL56.out.trans HL67.out)
    have HL47 := hide (HL45.out.trans HL57.out)
    have HL37 := hide (HL34.out.trans HL47.out)
    clear hown7 hb7 f0 f1
    have hres := tx.res_len l2
    rw [HL2.out] at hres
    obtain ⟨m3, hm3⟩ : ∃ m3, (tx.res l2).length = m3 := ⟨_, rfl⟩
    rw [hm3] at hres ⊢
    have HM3 := hide hm3
    clear hm3
    go_wp2_with fail
    refine (same_any w7 A3 A4 m3 c3 c4 (tx.res l2) HM3.out (by omega) ((HL37.out.row HR3.out (Nat.le_refl _)).more HL37.out.size) ((HL47.out.row HR4.out (Nat.le_refl _)).more HL47.out.size)).mono ?_
    rintro e w8 ⟨rfl, hb8⟩
    have HL78 := hide (show Le w7 w8 from hb8)
    clear hb8
    go_wp2_with fail
    refine (same_any w8 A6 A7 m6 c6 c7 (tx.next s2 op id).1 HM6.out (by omega) (((HL67.out.trans HL78.out).row HR6.out (Nat.le_refl _)).more (HL67.out.trans HL78.out).size) ((HL78.out.row HR7.out (Nat.le_refl _)).more HL78.out.size)).mono ?_
    rintro e w9 ⟨rfl, hb9⟩
    have HL79 := hide (HL78.out.trans hb9)
    have HL09 := hide (HL06.out.trans (HL67.out.trans HL79.out))
    clear hb9
    go_wp2_with fail
    refine (same_any w9 A5 B m2 c5 d s2 HS.out (by omega) (((HL57.out.trans HL79.out).row HR5.out (Nat.le_refl _)).more (HL57.out.trans HL79.out).size) ((HL09.out.row hrs2 (Nat.le_refl _)).more HL09.out.size)).mono ?_
    rintro e w10 ⟨rfl, hb10⟩
    have HL10 := hide (show Le w w10 from HL09.out.trans hb10)
    clear hb10
    obtain ⟨E1, hE1⟩ : ∃ E1, tx.err l2 = E1 := ⟨_, rfl⟩
    obtain ⟨E2, hE2⟩ : ∃ E2, (tx.next s2 op id).2 = E2 := ⟨_, rfl⟩
    rw [hE1, hE2]
    clear hE1 hE2
    go_wp2_with fail
    refine (limit_any w10 B m2 d s2 HS.out (by omega) ((HL10.out.row hrs2 (Nat.le_refl _)).more HL10.out.size)).mono ?_
    rintro e w' ⟨rfl, rfl⟩
    obtain ⟨q, hq⟩ : ∃ q, tx.limit s2 = q := ⟨_, rfl⟩
    rw [hq]
    have HQ := hide hq
    clear hq
    go_wp2_with fail
    refine (reflimit_any w10 B m2 d s2 HS.out (by omega) ((HL10.out.row hrs2 (Nat.le_refl _)).more HL10.out.size)).mono ?_
    rintro e w' ⟨rfl, rfl⟩
    rw [HQ.out]
    go_wp2_with fail
    go_ret
    exact ⟨rfl, HL10.out⟩
#print axioms states_walk
end Go.Proofs.Ytocpeiocgppkfaa
