/-
  The document's examples of predicates, walked (written by genPrF.py).
-/
import Derived.Test.YtklgmojojgoaeaaDoorPrD
namespace Go.Proofs.YtklgmojojgoaeaaDoor
open Go.RowKit
set_option linter.unusedVariables false

def ndLt : pr.Nd := ⟨5, 0, ⟨false, 5, ⟨#[]⟩⟩, none, 0, 0, [], none, 0, 0, []⟩
def ndNull : pr.Nd := ⟨8, 0, ⟨false, 0, ⟨#[]⟩⟩, none, 0, 0, [], none, 0, 0, []⟩
def ndOr (b : Nat) : pr.Nd := ⟨2, 0, ⟨false, 0, ⟨#[]⟩⟩, none, 0, 0, [], some ⟨b, 0, none⟩, 2, 2, [0, 1]⟩
theorem lt4 : pr.askedV ndLt ⟨false, 4, ⟨#[]⟩⟩ = 2 := by
  have h : va.cmpV ⟨false, 4, ⟨#[]⟩⟩ ⟨false, 5, ⟨#[]⟩⟩ = -1 := by simp [va.cmpV, va.orI, va.cmpI]
  unfold pr.askedV
  simp [ndLt, h, pr.yesI]
theorem lt5 : pr.askedV ndLt ⟨false, 5, ⟨#[]⟩⟩ = 0 := by
  have h : va.cmpV ⟨false, 5, ⟨#[]⟩⟩ ⟨false, 5, ⟨#[]⟩⟩ = 0 := va.cmpV_self _
  unfold pr.askedV
  simp [ndLt, h, pr.yesI]
theorem ltN : pr.askedV ndLt ⟨true, 0, ⟨#[]⟩⟩ = 1 := by
  unfold pr.askedV
  simp [ndLt]
theorem nuN : pr.askedV ndNull ⟨true, 0, ⟨#[]⟩⟩ = 2 := by
  unfold pr.askedV
  simp [ndNull, pr.yesI]
theorem one_eval (v : va.Val) : pr.evalV [ndLt] [v] = pr.askedV ndLt v := by
  have h : pr.nodeV [v] [] ndLt = pr.askedV ndLt v := nodeV_leaf rfl
  unfold pr.evalV
  simp only [pr.evalGo, h]
  rfl
theorem both_eval (b : Nat) : pr.evalV [ndLt, ndNull, ndOr b] [⟨true, 0, ⟨#[]⟩⟩] = 2 := by
  have h1 : ∀ out, pr.nodeV [⟨true, 0, ⟨#[]⟩⟩] out ndLt = 1 := fun out => (nodeV_leaf rfl).trans ltN
  have h2 : ∀ out, pr.nodeV [⟨true, 0, ⟨#[]⟩⟩] out ndNull = 2 := fun out => (nodeV_leaf rfl).trans nuN
  unfold pr.evalV
  simp only [pr.evalGo, h1, h2]
  rfl
theorem fine_lt (m i : Nat) (hm : 0 < m) : pr.Fine m i ndLt := ⟨fun h => (by cases h), fun _ => ⟨by decide, by decide, fun _ => ⟨by decide, by show (0 : Int) < m; omega⟩⟩⟩
theorem fine_null (m i : Nat) (hm : 0 < m) : pr.Fine m i ndNull := ⟨fun h => (by cases h), fun _ => ⟨by decide, by decide, fun _ => ⟨by decide, by show (0 : Int) < m; omega⟩⟩⟩
theorem fine_or (m b : Nat) : pr.Fine m 2 (ndOr b) := ⟨fun _ => ⟨by simp [ndOr], fun h => (by cases h), fun k hk => (by
  simp only [ndOr, List.mem_cons, List.not_mem_nil, or_false] at hk
  rcases hk with rfl | rfl <;> decide)⟩, fun h => (by cases h)⟩
theorem has_nil {w : World} {B : Nat} {op col : Int} {v : va.Val} (hv : v.s.size ≤ 9223372036854775807) : Has w B ⟨op, col, v, none, 0, 0, [], none, 0, 0, []⟩ :=
  ⟨rfl, by simp, fun h => absurd rfl h, rfl, by simp, fun h => absurd rfl h, hv, fun v h => (by cases h), by simp⟩

set_option maxRecDepth 100000 in
set_option maxHeartbeats 4000000 in
theorem shown_any (w : World) : Calls Tryd.prog 8 #[] w fun e w' => e = .returned (.bool true) ∧ Below w.heap.size w w' := by
  go_enter Tryd.func8, Tryd.ntmps8
  obtain ⟨X1, hX1, bx, hb1⟩ := nd_box2 w #[.int .i64 0, .int .i64 0, .bool false, .int .i64 0, .string ⟨#[]⟩, .slice none 0 0, .slice none 0 0] 40 ndLt
  have hX1' : (w.alloc (.cells #[.int .i64 0, .int .i64 0, .bool false, .int .i64 0, .string ⟨#[]⟩, .slice none 0 0, .slice none 0 0] 40)).setRow w.heap.size #[.int .i64 5, .int .i64 0, .bool false, .int .i64 5, .string ⟨#[]⟩, .slice none 0 0, .slice none 0 0] = X1 := hX1
  have hone : (#[.int .i64 5, .int .i64 0, .bool false, .int .i64 5, .string ⟨#[]⟩, .slice none 0 0, .slice none 0 0] : Array Value).all (·.oneCell') = true := nd_one ndLt
  have HX1 := hide hX1'
  have HB1 := hide hb1
  have c0 := bx.cell 0 (.int .i64 5) rfl
  have c1 := bx.cell 1 (.int .i64 0) rfl
  have c2 := bx.cell 2 (.bool false) rfl
  have c3 := bx.cell 3 (.int .i64 5) rfl
  have c4 := bx.cell 4 (.string ⟨#[]⟩) rfl
  have c5 := bx.cell 5 (.slice none 0 0) rfl
  have c6 := bx.cell 6 (.slice none 0 0) rfl
  have hlt := bx.lt
  clear hX1 hX1' hb1 bx
  go_upto_region 2 with (refine wpList_store_row rfl 40 _ _ rfl w.heap.size _ rfl rfl 40 _ (box_new _ _ _) (by kernel_rfl) rfl hone ?_)
  rw [HX1.out]
  go_upto_region 3 with fail
  obtain ⟨X2, hX2⟩ : ∃ X, X1.alloc (.cells #[.int .i64 5, .int .i64 0, .bool false, .int .i64 5, .string ⟨#[]⟩, .slice none 0 0, .slice none 0 0] 40) = X := ⟨_, rfl⟩
  rw [hX2]
  have HB2 := hide (show Le w X2 by rw [← hX2]; exact HB1.out.alloc HB1.out.size _)
  have HR2 := hide (show Row X2 X2.heap.size (some ⟨X1.heap.size, 0, none⟩) (ncs [ndLt]) by rw [← hX2]; exact (row_new X1 #[.int .i64 5, .int .i64 0, .bool false, .int .i64 5, .string ⟨#[]⟩, .slice none 0 0, .slice none 0 0] 40 (0, 0)).more (by simp))
  have d : ∀ (i : Nat) u, X1.cell? ⟨w.heap.size, i, none⟩ = some u → X2.cell? ⟨w.heap.size, i, none⟩ = some u := fun i u h => by rw [← hX2]; exact (World.cell?_alloc_lt X1 _ _ (by simpa using hlt)).trans h
  have c0 := d _ _ c0
  have c1 := d _ _ c1
  have c2 := d _ _ c2
  have c3 := d _ _ c3
  have c4 := d _ _ c4
  have c5 := d _ _ c5
  have c6 := d _ _ c6
  have hz2 : X2.heap.size = X1.heap.size + 1 := by rw [← hX2]; simp
  have hlt2 : w.heap.size < X2.heap.size := by omega
  have HZ2 := hide hz2
  clear d hX2 hz2
  go_upto_region 4 with fail
  clear c0 c1 c2 c3 c4 c5 c6
  obtain ⟨X3, hX3⟩ : ∃ X, X2.alloc (.cells #[.int .i64 0, .int .i64 1] 3) = X := ⟨_, rfl⟩
  rw [hX3]
  have hb3 : Below X2.heap.size X2 X3 := by rw [← hX3]; exact (Below.refl _ _).alloc (Nat.le_refl _) _
  have hr3 : Row X3 X3.heap.size (some ⟨X2.heap.size, 0, none⟩) [.int .i64 0, .int .i64 1] := by rw [← hX3]; exact (row_new X2 #[.int .i64 0, .int .i64 1] 3 (0, 0)).more (by simp)
  have hz3 : X3.heap.size = X2.heap.size + 1 := by rw [← hX3]; simp
  (try rw [show X2.heap.size + 1 = X3.heap.size from hz3.symm])
  obtain ⟨X4, hX4⟩ : ∃ X, X3.alloc (.cells #[.int .i64 5, .int .i64 0, .bool false, .int .i64 5, .string ⟨#[]⟩, .slice none 0 0, .slice none 0 0, .int .i64 8, .int .i64 0, .bool false, .int .i64 0, .string ⟨#[]⟩, .slice none 0 0, .slice none 0 0, .int .i64 2, .int .i64 0, .bool false, .int .i64 0, .string ⟨#[]⟩, .slice none 0 0, .slice (some ⟨X2.heap.size, 0, none⟩) 2 2] 40) = X := ⟨_, rfl⟩
  rw [hX4]
  have hb4 : Below X3.heap.size X3 X4 := by rw [← hX4]; exact (Below.refl _ _).alloc (Nat.le_refl _) _
  have HB4 := hide (show Le w X4 from (HB2.out.trans hb3).trans hb4)
  have HR4 := hide (show Row X4 X4.heap.size (some ⟨X3.heap.size, 0, none⟩) (ncs [ndLt, ndNull, ndOr X2.heap.size]) by rw [← hX4]; exact (row_new X3 #[.int .i64 5, .int .i64 0, .bool false, .int .i64 5, .string ⟨#[]⟩, .slice none 0 0, .slice none 0 0, .int .i64 8, .int .i64 0, .bool false, .int .i64 0, .string ⟨#[]⟩, .slice none 0 0, .slice none 0 0, .int .i64 2, .int .i64 0, .bool false, .int .i64 0, .string ⟨#[]⟩, .slice none 0 0, .slice (some ⟨X2.heap.size, 0, none⟩) 2 2] 40 (0, 0)).more (by simp))
  have HI4 := hide (show Row X4 X4.heap.size (some ⟨X2.heap.size, 0, none⟩) (([0, 1] : List Int).map (Value.int .i64)) from (hr3.below hb4 (Nat.le_refl _)).more hb4.size)
  have HR24 := hide (show Row X4 X4.heap.size (some ⟨X1.heap.size, 0, none⟩) (ncs [ndLt]) from ((HR2.out.below hb3 (Nat.le_refl _)).below hb4 hb3.size).more (Nat.le_trans hb3.size hb4.size))
  clear hX3 hX4 hb3 hr3 hz3 hb4 HB1 HB2 HR2 HX1
  have HLX4 := hide (show Le X4 X4 from Below.refl _ _)
  have HBX4 := HB4
  go_wp2_with fail
  obtain ⟨Y1, hY⟩ : ∃ X, X4.alloc (.cells #[.bool false, .int .i64 4, .string ⟨#[]⟩] 38) = X := ⟨_, rfl⟩
  rw [hY]
  have hb : Below X4.heap.size X4 Y1 := by rw [← hY]; exact (Below.refl _ _).alloc (Nat.le_refl _) _
  have HRY1 := hide (show Row Y1 Y1.heap.size (some ⟨X4.heap.size, 0, none⟩) (vcs [⟨false, 4, ⟨#[]⟩⟩]) by rw [← hY]; exact (row_new X4 #[.bool false, .int .i64 4, .string ⟨#[]⟩] 38 (0, 0)).more (by simp))
  have HLY1 := hide (show Le X4 Y1 from HLX4.out.trans hb)
  have HBY1 := hide (show Le w Y1 from HBX4.out.trans hb)
  clear hY hb
  refine (eval_any Y1 _ 1 1 [ndLt] _ 1 1 [⟨false, 4, ⟨#[]⟩⟩] rfl (by omega) ((HLY1.out.row HR24.out (Nat.le_refl _)).more HLY1.out.size) (fun n hn => by rw [List.mem_singleton.1 hn]; exact has_nil (Nat.zero_le _)) rfl (by omega) HRY1.out (fun j n hn => by
    match j, hn with
    | 0, hn => simp at hn; subst hn; exact fine_lt 1 0 (by omega)
    | j + 1, hn => simp at hn)).mono ?_
  rintro e w1 ⟨rfl, hb⟩
  rw [one_eval, lt4]
  have HLw1 := hide (show Le X4 w1 from HLY1.out.trans hb)
  have HBw1 := hide (show Le w w1 from HBY1.out.trans hb)
  clear hb
  go_wp2_with fail
  obtain ⟨Y2, hY⟩ : ∃ X, w1.alloc (.cells #[.bool true, .int .i64 0, .string ⟨#[]⟩] 38) = X := ⟨_, rfl⟩
  rw [hY]
  have hb : Below w1.heap.size w1 Y2 := by rw [← hY]; exact (Below.refl _ _).alloc (Nat.le_refl _) _
  have HRY2 := hide (show Row Y2 Y2.heap.size (some ⟨w1.heap.size, 0, none⟩) (vcs [⟨true, 0, ⟨#[]⟩⟩]) by rw [← hY]; exact (row_new w1 #[.bool true, .int .i64 0, .string ⟨#[]⟩] 38 (0, 0)).more (by simp))
  have HLY2 := hide (show Le X4 Y2 from HLw1.out.trans hb)
  have HBY2 := hide (show Le w Y2 from HBw1.out.trans hb)
  clear hY hb
  refine (eval_any Y2 _ 1 1 [ndLt] _ 1 1 [⟨true, 0, ⟨#[]⟩⟩] rfl (by omega) ((HLY2.out.row HR24.out (Nat.le_refl _)).more HLY2.out.size) (fun n hn => by rw [List.mem_singleton.1 hn]; exact has_nil (Nat.zero_le _)) rfl (by omega) HRY2.out (fun j n hn => by
    match j, hn with
    | 0, hn => simp at hn; subst hn; exact fine_lt 1 0 (by omega)
    | j + 1, hn => simp at hn)).mono ?_
  rintro e w2 ⟨rfl, hb⟩
  rw [one_eval, ltN]
  have HLw2 := hide (show Le X4 w2 from HLY2.out.trans hb)
  have HBw2 := hide (show Le w w2 from HBY2.out.trans hb)
  clear hb
  go_wp2_with fail
  obtain ⟨Y3, hY⟩ : ∃ X, w2.alloc (.cells #[.bool false, .int .i64 5, .string ⟨#[]⟩] 38) = X := ⟨_, rfl⟩
  rw [hY]
  have hb : Below w2.heap.size w2 Y3 := by rw [← hY]; exact (Below.refl _ _).alloc (Nat.le_refl _) _
  have HRY3 := hide (show Row Y3 Y3.heap.size (some ⟨w2.heap.size, 0, none⟩) (vcs [⟨false, 5, ⟨#[]⟩⟩]) by rw [← hY]; exact (row_new w2 #[.bool false, .int .i64 5, .string ⟨#[]⟩] 38 (0, 0)).more (by simp))
  have HLY3 := hide (show Le X4 Y3 from HLw2.out.trans hb)
  have HBY3 := hide (show Le w Y3 from HBw2.out.trans hb)
  clear hY hb
  refine (eval_any Y3 _ 1 1 [ndLt] _ 1 1 [⟨false, 5, ⟨#[]⟩⟩] rfl (by omega) ((HLY3.out.row HR24.out (Nat.le_refl _)).more HLY3.out.size) (fun n hn => by rw [List.mem_singleton.1 hn]; exact has_nil (Nat.zero_le _)) rfl (by omega) HRY3.out (fun j n hn => by
    match j, hn with
    | 0, hn => simp at hn; subst hn; exact fine_lt 1 0 (by omega)
    | j + 1, hn => simp at hn)).mono ?_
  rintro e w3 ⟨rfl, hb⟩
  rw [one_eval, lt5]
  have HLw3 := hide (show Le X4 w3 from HLY3.out.trans hb)
  have HBw3 := hide (show Le w w3 from HBY3.out.trans hb)
  clear hb
  go_wp2_with fail
  obtain ⟨Y4, hY⟩ : ∃ X, w3.alloc (.cells #[.bool true, .int .i64 0, .string ⟨#[]⟩] 38) = X := ⟨_, rfl⟩
  rw [hY]
  have hb : Below w3.heap.size w3 Y4 := by rw [← hY]; exact (Below.refl _ _).alloc (Nat.le_refl _) _
  have HRY4 := hide (show Row Y4 Y4.heap.size (some ⟨w3.heap.size, 0, none⟩) (vcs [⟨true, 0, ⟨#[]⟩⟩]) by rw [← hY]; exact (row_new w3 #[.bool true, .int .i64 0, .string ⟨#[]⟩] 38 (0, 0)).more (by simp))
  have HLY4 := hide (show Le X4 Y4 from HLw3.out.trans hb)
  have HBY4 := hide (show Le w Y4 from HBw3.out.trans hb)
  clear hY hb
  refine (eval_any Y4 _ 3 3 [ndLt, ndNull, ndOr X2.heap.size] _ 1 1 [⟨true, 0, ⟨#[]⟩⟩] rfl (by omega) ((HLY4.out.row HR4.out (Nat.le_refl _)).more HLY4.out.size) (fun n hn => by
    simp only [List.mem_cons, List.not_mem_nil, or_false] at hn
    rcases hn with rfl | rfl | rfl
    · exact has_nil (Nat.zero_le _)
    · exact has_nil (Nat.zero_le _)
    · exact ⟨rfl, by simp [ndOr], fun h => absurd rfl h, rfl, by simp [ndOr], (HLY4.out.row HI4.out (Nat.le_refl _)).more HLY4.out.size, Nat.zero_le _, fun v h => (by cases h), Nat.le_refl _⟩) rfl (by omega) HRY4.out (fun j n hn => by
    match j, hn with
    | 0, hn => simp at hn; subst hn; exact fine_lt 1 0 (by omega)
    | 1, hn => simp at hn; subst hn; exact fine_null 1 1 (by omega)
    | 2, hn => simp at hn; subst hn; exact fine_or 1 _
    | j + 3, hn => simp at hn)).mono ?_
  rintro e w4 ⟨rfl, hb⟩
  rw [both_eval]
  have HLw4 := hide (show Le X4 w4 from HLY4.out.trans hb)
  have HBw4 := hide (show Le w w4 from HBY4.out.trans hb)
  clear hb
  go_wp2_with fail
  go_ret
  exact ⟨rfl, HBw4.out⟩
#print axioms shown_any

theorem ncs_take : ∀ (l : List pr.Nd) (k : Nat), ncs (l.take k) = (ncs l).take (k * 7)
  | [], k => by simp [ncs]
  | c :: l, 0 => by simp [ncs]
  | c :: l, k + 1 => by
    rw [List.take_succ_cons, ncs_cons, ncs_cons, ncs_take l k, show (k + 1) * 7 = k * 7 + 1 + 1 + 1 + 1 + 1 + 1 + 1 by omega]
    rfl
/-- Nodes that came in, or the first of them. -/
def NodesIn (w : World) (B : Nat) (s : Value) (l : List pr.Nd) : Prop := ∃ (A : Option Addr) (n c : Nat), s = .slice A n c ∧ l.length = n ∧ n ≤ 45 ∧ Row w B A (ncs l) ∧ ∀ n ∈ l, Has w B n
set_option maxRecDepth 100000 in
theorem few_any (w : World) (A : Option Addr) (n c : Nat) (l : List pr.Nd) (hl : l.length = n) (hnc : n ≤ c) (hr : Row w w.heap.size A (ncs l)) (hh : ∀ n ∈ l, Has w w.heap.size n) :
    Calls Tryd.prog 9 #[.slice A n c] w fun e w' => (∃ (n' c' : Nat) (l' : List pr.Nd), e = .returned (.slice A n' c') ∧ l'.length = n' ∧ n' ≤ 45 ∧ n' ≤ c' ∧ Row w w.heap.size A (ncs l') ∧ ∀ n ∈ l', Has w w.heap.size n) ∧ w = w' := by
  go_enter Tryd.func9, Tryd.ntmps9
  by_cases h : 45 < n
  · have d1 : decide (45 < (n : Int)) = true := decide_eq_true (by omega)
    have hc1 : (45 : Int) ≤ (c : Int) := by omega
    have hc2 : (45 : Nat) ≤ c := by omega
    have H1 := hide hl
    have H2 := hide hr
    have H3 := hide hh
    clear hl hr hh
    go_wp2_with fail
    go_ret
    exact ⟨⟨45, c, l.take 45, rfl, by rw [List.length_take, H1.out]; omega, by omega, by omega, by rw [ncs_take]; exact H2.out.take _, fun n hn => H3.out n (List.mem_of_mem_take hn)⟩, rfl⟩
  · have d1 : decide (45 < (n : Int)) = false := decide_eq_false (by omega)
    have H1 := hide hl
    have H2 := hide hr
    have H3 := hide hh
    clear hl hr hh
    go_wp2_with fail
    go_ret
    exact ⟨⟨n, c, l, rfl, H1.out, by omega, hnc, H2.out, H3.out⟩, rfl⟩
#print axioms few_any
end Go.Proofs.YtklgmojojgoaeaaDoor
