/-
  All that is known, laid down, walked: by the program and by the document (written by genQW.py).
-/
import Derived.Test.YtjliocbdidiemaaDoorQU
namespace Go.Proofs.YtjliocbdidiemaaDoor
open Go.RowKit
set_option linter.unusedVariables false

theorem valB_len (v : va.Val) (hx : I64 v.n) (hs : v.s.size ≤ 2000) : (valB v).length ≤ v.s.size + 60 := by
  have a1 := var.vput_len10 (show var.S64 8 by unfold var.S64; omega)
  have a2 := var.vput_len10 (show var.S64 (bit v.nul) by unfold var.S64 bit; split <;> omega)
  have a3 := var.vput_len10 (show var.S64 16 by unfold var.S64; omega)
  have a4 := var.vput_len10 (zig_s64 hx)
  have a5 := var.vput_len10 (show var.S64 26 by unfold var.S64; omega)
  have a6 := var.vput_len10 (show var.S64 v.s.size by unfold var.S64; omega)
  have e : valB v = (var.vput 8 ++ var.vput (bit v.nul)) ++ ((var.vput 16 ++ var.vput (zig v.n)) ++ ((var.vput 26 ++ (var.vput (byt v.s).length ++ byt v.s)) ++ [])) := rfl
  rw [e]
  simp only [List.length_append, List.length_nil, byt_len]
  omega
theorem valB8 (v : va.Val) (hx : I64 v.n) (hs : v.s.size ≤ 2000) : ∀ c ∈ valB v, c < 256 := wi.enc8 (valF_fits hx (byt8 v.s) (by rw [byt_len]; exact hs))
def GoodS (s : st.St) : Prop := I64 s.c ∧ I64 s.mn.n ∧ s.mn.s.size ≤ 1500 ∧ I64 s.mx.n ∧ s.mx.s.size ≤ 1500 ∧ I64 s.sum
theorem statF_good {s : st.St} (h : GoodS s) : ∀ f ∈ statF s, wi.Fits f ∧ (1 ≤ f.tag ∧ f.tag ≤ 100) ∧ wi.Norm f := by
  obtain ⟨h1, h2, h3, h4, h5, h6⟩ := h
  have l1 := valB_len s.mn h2 (by omega)
  have l2 := valB_len s.mx h4 (by omega)
  intro f hf
  simp only [statF, List.mem_cons, List.not_mem_nil, or_false] at hf
  rcases hf with rfl | rfl | rfl | rfl | rfl | rfl
  · exact ⟨⟨by unfold var.S64; simp only; omega, by simp, by simp⟩, by simp, And.intro (fun h => by cases h) (fun _ => rfl)⟩
  · exact ⟨⟨by unfold var.S64 bit; simp only; split <;> omega, by simp, by simp⟩, by simp, And.intro (fun h => by cases h) (fun _ => rfl)⟩
  · exact ⟨⟨show (0 : Nat) < 18446744073709551616 by decide, valB8 _ h2 (by omega), by simp only; omega⟩, by simp, And.intro (fun _ => rfl) (fun h => by cases h)⟩
  · exact ⟨⟨show (0 : Nat) < 18446744073709551616 by decide, valB8 _ h4 (by omega), by simp only; omega⟩, by simp, And.intro (fun _ => rfl) (fun h => by cases h)⟩
  · exact ⟨⟨zig_s64 h6, by simp, by simp⟩, by simp, And.intro (fun h => by cases h) (fun _ => rfl)⟩
  · exact ⟨⟨by unfold var.S64 bit; simp only; split <;> omega, by simp, by simp⟩, by simp, And.intro (fun h => by cases h) (fun _ => rfl)⟩
theorem statF_put {s : st.St} (h : GoodS s) : (wi.put (statF s)).1 = statE s := by
  rw [wi.put_ok]
  · rfl
  · intro k f hk
    exact (statF_good h f (List.mem_of_getElem? hk)).2.1
def statV (s : st.St) (A : Option Addr) (c : Nat) (B : Option Addr) (d : Nat) : List FV := [(⟨1, false, (s.c % 18446744073709551616).toNat, []⟩, none, 0), (⟨2, false, bit s.hn, []⟩, none, 0), (⟨3, true, 0, valB s.mn⟩, A, c), (⟨4, true, 0, valB s.mx⟩, B, d), (⟨5, false, zig s.sum, []⟩, none, 0), (⟨6, false, bit s.ov, []⟩, none, 0)]
theorem statV_held {w : World} {s : st.St} {A B : Option Addr} {c d : Nat} (h1 : (valB s.mn).length ≤ c) (h2 : c ≤ maxLen) (h3 : Row w w.heap.size A (u8s (valB s.mn))) (h4 : (valB s.mx).length ≤ d) (h5 : d ≤ maxLen) (h6 : Row w w.heap.size B (u8s (valB s.mx))) : Held w w.heap.size (statV s A c B d) := by
  intro p hp
  simp only [statV, List.mem_cons, List.not_mem_nil, or_false] at hp
  rcases hp with rfl | rfl | rfl | rfl | rfl | rfl
  · exact ⟨by simp, by simp, Row.none_⟩
  · exact ⟨by simp, by simp, Row.none_⟩
  · exact ⟨h1, h2, h3⟩
  · exact ⟨h4, h5, h6⟩
  · exact ⟨by simp, by simp, Row.none_⟩
  · exact ⟨by simp, by simp, Row.none_⟩


set_option maxRecDepth 100000 in
set_option maxHeartbeats 8000000 in
theorem putstats_any (w : World) (s : st.St) (hg : GoodS s) :
    Calls Tryd.prog 14 #[.agg (st.cells s)] w (Gives w.heap.size 5 1 (statE s).length (u8s (statE s)) w) := by
  have HFIT := hide (fun f hf => (statF_good hg f hf).1)
  have HPUT := hide (statF_put hg)
  obtain ⟨S, hS⟩ : ∃ S, s = S := ⟨_, rfl⟩
  rw [hS] at HFIT HPUT
  have HSV := hide hS
  obtain ⟨hi1, hi2, hz2, hi4, hz4, hi6⟩ := hg
  rw [hS]
  obtain ⟨c, hn, ⟨mn, mi, ms⟩, ⟨xn, xi, xs⟩, su, ov⟩ := s
  rw [← hS]
  simp only [st.cells] at hi1 hi2 hz2 hi4 hz4 hi6 ⊢
  have HI2 := hide hi2
  have HZ2 := hide hz2
  have HI4 := hide hi4
  have HZ4 := hide hz4
  have HI6 := hide hi6
  obtain ⟨N, hN⟩ : ∃ N, (c % 18446744073709551616).toNat = N := ⟨_, rfl⟩
  have HN := hide (show IntKind.u64.wrap c = (N : Int) by rw [IntKind.wrap_u64, ← hN]; omega)
  obtain ⟨EE, hEE⟩ : ∃ EE, statE ⟨c, hn, ⟨mn, mi, ms⟩, ⟨xn, xi, xs⟩, su, ov⟩ = EE := ⟨_, rfl⟩
  rw [hEE]
  have HEE := hide hEE
  obtain ⟨V, hV⟩ : ∃ V, (w.alloc (.cells #[.int .i64 c, .bool hn, .bool mn, .int .i64 mi, .string ms, .bool xn, .int .i64 xi, .string xs, .int .i64 su, .bool ov] 36)).drew = V := ⟨_, rfl⟩
  have bx : Box V w.heap.size #[.int .i64 c, .bool hn, .bool mn, .int .i64 mi, .string ms, .bool xn, .int .i64 xi, .string xs, .int .i64 su, .bool ov] 36 := by rw [← hV]; exact (box_new _ _ _).drew
  have HLV := hide (show Le w V by rw [← hV]; exact ((Below.refl _ _).alloc (Nat.le_refl _) _).drew)
  have g0 := bx.later 0 (.int .i64 c) rfl
  have g1 := bx.later 1 (.bool hn) rfl
  have g2 := bx.later 2 (.bool mn) rfl
  have g3 := bx.later 3 (.int .i64 mi) rfl
  have g4 := bx.later 4 (.string ms) rfl
  have g5 := bx.later 5 (.bool xn) rfl
  have g6 := bx.later 6 (.int .i64 xi) rfl
  have g7 := bx.later 7 (.string xs) rfl
  have g8 := bx.later 8 (.int .i64 su) rfl
  have g9 := bx.later 9 (.bool ov) rfl
  have HV := hide hV
  have HNN := hide hN
  clear hV bx hi1 hi2 hz2 hi4 hz4 hi6 hN hEE
  go_enter Tryd.func14, Tryd.ntmps14
  go_wp2_with fail
  refine region_pi [(0, true), (1, true), (3, true), (4, true), (6, true), (7, true), (10, true), (11, true), (14, true), (15, true), (17, true), (18, true), (2, false), (5, false), (8, false), (9, false), (12, false), (13, false), (16, false), (19, false), (20, false), (21, false), (22, true)] (by kernel_rfl) (by kernel_rfl) ?_
  simp only [opsPi, List.filterMap_cons, List.filterMap_nil, List.getElem?_toArray, List.getElem?_cons_zero, List.getElem?_cons_succ, Option.map_some]
  rw [HV.out]
  repeat (first | (refine pi_take (v := _) rfl (fun W hW => by go_simp <;> exact rfl) ?_; simp only [Act.put, List.setIfInBounds_toArray, List.set_cons_zero, List.set_cons_succ]) | (refine pi_skip rfl ?_; simp only [Act.put, List.setIfInBounds_toArray, List.set_cons_zero, List.set_cons_succ]))
  clear g0 g1 g2 g3 g4 g5 g6 g7 g8 g9
  refine pi_run ?_
  go_wp2_with fail
  refine (wnumber_any V 1 c).mono ?_
  rintro e z1 ⟨rfl, hb⟩
  rw [HN.out]
  have HBz1 := hide (show Le V z1 from hb)
  have HLz1 := hide (HLV.out.trans HBz1.out)
  clear hb
  go_wp2_with fail
  refine ⟨HBz1.out, ?_⟩
  refine pi_run ?_
  go_wp2_with fail
  refine (truth_any z1 2 hn).mono ?_
  rintro e z2 ⟨rfl, hb⟩
  have HBz2 := hide (show Le z1 z2 from hb)
  have HLz2 := hide (HLz1.out.trans HBz2.out)
  clear hb
  go_wp2_with fail
  refine ⟨HBz2.out, ?_⟩
  refine pi_run ?_
  go_wp2_with fail
  refine (putvalue_any z2 mn mi ms HI2.out (by have := HZ2.out; omega)).mono ?_
  rintro e z3 ⟨v3, rfl, hown, hb⟩
  obtain ⟨A3, c3, rfl, hc3, hc3'⟩ := own_form hown
  have HR3 := hide (Row.of_own hown)
  obtain ⟨n3, hn3⟩ : ∃ n, (valE mn mi (byt ms)).length = n := ⟨_, rfl⟩
  rw [hn3] at hc3 ⊢
  have HC3 := hide hc3
  have HC3' := hide hc3'
  have HNL3 := hide hn3
  have HBz3 := hide (show Le z2 z3 from hb)
  have HLz3 := hide (HLz2.out.trans HBz3.out)
  clear hb hown hc3 hc3' hn3
  go_wp2_with fail
  refine ⟨HBz3.out, ?_⟩
  refine pi_run ?_
  go_wp2_with fail
  refine (text_any z3 3 A3 n3 c3).mono ?_
  rintro e z4 ⟨rfl, hb⟩
  have HBz4 := hide (show Le z3 z4 from hb)
  have HLz4 := hide (HLz3.out.trans HBz4.out)
  clear hb
  have HR3z4 := hide (HR3.out.le HBz4.out)
  go_wp2_with fail
  refine ⟨HBz4.out, ?_⟩
  refine pi_run ?_
  go_wp2_with fail
  refine (putvalue_any z4 xn xi xs HI4.out (by have := HZ4.out; omega)).mono ?_
  rintro e z5 ⟨v4, rfl, hown, hb⟩
  obtain ⟨A4, c4, rfl, hc4, hc4'⟩ := own_form hown
  have HR4 := hide (Row.of_own hown)
  obtain ⟨n4, hn4⟩ : ∃ n, (valE xn xi (byt xs)).length = n := ⟨_, rfl⟩
  rw [hn4] at hc4 ⊢
  have HC4 := hide hc4
  have HC4' := hide hc4'
  have HNL4 := hide hn4
  have HBz5 := hide (show Le z4 z5 from hb)
  have HLz5 := hide (HLz4.out.trans HBz5.out)
  clear hb hown hc4 hc4' hn4
  have HR3z5 := hide (HR3z4.out.le HBz5.out)
  go_wp2_with fail
  refine ⟨HBz5.out, ?_⟩
  refine pi_run ?_
  go_wp2_with fail
  refine (text_any z5 4 A4 n4 c4).mono ?_
  rintro e z6 ⟨rfl, hb⟩
  have HBz6 := hide (show Le z5 z6 from hb)
  have HLz6 := hide (HLz5.out.trans HBz6.out)
  clear hb
  have HR3z6 := hide (HR3z5.out.le HBz6.out)
  have HR4z6 := hide (HR4.out.le HBz6.out)
  go_wp2_with fail
  refine ⟨HBz6.out, ?_⟩
  refine pi_run ?_
  go_wp2_with fail
  refine (sign_any z6 5 su HI6.out).mono ?_
  rintro e z7 ⟨rfl, hb⟩
  have HBz7 := hide (show Le z6 z7 from hb)
  have HLz7 := hide (HLz6.out.trans HBz7.out)
  clear hb
  have HR3z7 := hide (HR3z6.out.le HBz7.out)
  have HR4z7 := hide (HR4z6.out.le HBz7.out)
  go_wp2_with fail
  refine ⟨HBz7.out, ?_⟩
  refine pi_run ?_
  go_wp2_with fail
  refine (truth_any z7 6 ov).mono ?_
  rintro e z8 ⟨rfl, hb⟩
  have HBz8 := hide (show Le z7 z8 from hb)
  have HLz8 := hide (HLz7.out.trans HBz8.out)
  clear hb
  have HR3z8 := hide (HR3z7.out.le HBz8.out)
  have HR4z8 := hide (HR4z7.out.le HBz8.out)
  go_wp2_with fail
  refine ⟨HBz8.out, ?_⟩
  refine pi_run ?_
  go_wp2_with fail
  refine ⟨(Below.refl _ _).alloc (Nat.le_refl _) _, ?_⟩
  refine pi_run ?_
  go_wp2_with fail
  obtain ⟨X, hX⟩ : ∃ X, z8.alloc (.cells #[.int .i64 1, .bool false, .int .u64 (N : Int), .slice none 0 0, .int .i64 2, .bool false, .int .u64 (bit hn : Int), .slice none 0 0, .int .i64 3, .bool true, .int .u64 0, .slice A3 n3 c3, .int .i64 4, .bool true, .int .u64 0, .slice A4 n4 c4, .int .i64 5, .bool false, .int .u64 (zig su : Int), .slice none 0 0, .int .i64 6, .bool false, .int .u64 (bit ov : Int), .slice none 0 0] 49) = X := ⟨_, rfl⟩
  have hXrow : Row X X.heap.size (some ⟨z8.heap.size, 0, none⟩) (fcs (statV ⟨c, hn, ⟨mn, mi, ms⟩, ⟨xn, xi, xs⟩, su, ov⟩ A3 c3 A4 c4)) := by
    rw [← hX]
    have h := (row_new z8 #[.int .i64 1, .bool false, .int .u64 (N : Int), .slice none 0 0, .int .i64 2, .bool false, .int .u64 (bit hn : Int), .slice none 0 0, .int .i64 3, .bool true, .int .u64 0, .slice A3 n3 c3, .int .i64 4, .bool true, .int .u64 0, .slice A4 n4 c4, .int .i64 5, .bool false, .int .u64 (zig su : Int), .slice none 0 0, .int .i64 6, .bool false, .int .u64 (bit ov : Int), .slice none 0 0] 49 (0, 0)).more (show z8.heap.size + 1 ≤ (z8.alloc (.cells #[.int .i64 1, .bool false, .int .u64 (N : Int), .slice none 0 0, .int .i64 2, .bool false, .int .u64 (bit hn : Int), .slice none 0 0, .int .i64 3, .bool true, .int .u64 0, .slice A3 n3 c3, .int .i64 4, .bool true, .int .u64 0, .slice A4 n4 c4, .int .i64 5, .bool false, .int .u64 (zig su : Int), .slice none 0 0, .int .i64 6, .bool false, .int .u64 (bit ov : Int), .slice none 0 0] 49)).heap.size by simp)
    rw [← HNL3.out, ← HNL4.out, ← HNN.out] at h ⊢
    exact h
  have HLX := hide (show Le z8 X by rw [← hX]; exact (Below.refl _ _).alloc (Nat.le_refl _) _)
  have hXheld : Held X X.heap.size (statV ⟨c, hn, ⟨mn, mi, ms⟩, ⟨xn, xi, xs⟩, su, ov⟩ A3 c3 A4 c4) := statV_held (s := ⟨c, hn, ⟨mn, mi, ms⟩, ⟨xn, xi, xs⟩, su, ov⟩) (by show (valE mn mi (byt ms)).length ≤ c3; rw [HNL3.out]; exact HC3.out) HC3'.out (HR3z8.out.le HLX.out) (by show (valE xn xi (byt xs)).length ≤ c4; rw [HNL4.out]; exact HC4.out) HC4'.out (HR4z8.out.le HLX.out)
  rw [hX]
  have HXX := hide hX
  clear hX
  refine (wputs_any X _ 6 6 (statV ⟨c, hn, ⟨mn, mi, ms⟩, ⟨xn, xi, xs⟩, su, ov⟩ A3 c3 A4 c4) (statF ⟨c, hn, ⟨mn, mi, ms⟩, ⟨xn, xi, xs⟩, su, ov⟩) rfl rfl (by omega) (by rw [HSV.out]; exact HFIT.out) hXrow hXheld).mono ?_
  rintro e w21 ⟨v21, rfl, hown21, hb21⟩
  have HB21 := hide (show Le X w21 from hb21)
  have HBF := hide (show Below w.heap.size w w21 from HLz8.out.trans (HLX.out.trans HB21.out))
  have HOF := hide (show w21.ownsRow w.heap.size 5 1 v21 EE.length (u8s EE) by rw [HSV.out, HPUT.out, ← HSV.out, HEE.out] at hown21; exact own_more hown21 (HLz8.out.trans HLX.out).size)
  obtain ⟨A21, c21, rfl, -, -⟩ := own_form HOF.out
  clear hown21 hb21 hXrow hXheld
  go_wp2_with fail
  refine ⟨by rw [HXX.out]; exact HB21.out, ?_⟩
  repeat (first | (refine pi_take (v := _) rfl (fun W hW => by go_simp <;> exact rfl) ?_; simp only [Act.put, List.setIfInBounds_toArray, List.set_cons_zero, List.set_cons_succ]) | (refine pi_skip rfl ?_; simp only [Act.put, List.setIfInBounds_toArray, List.set_cons_zero, List.set_cons_succ]))
  refine pi_done ?_
  go_wp2_with fail
  go_ret
  exact ⟨_, rfl, HOF.out, HBF.out⟩
#print axioms putstats_any

set_option maxRecDepth 100000 in
set_option maxHeartbeats 8000000 in
theorem refputstats_any (w : World) (s : st.St) (hg : GoodS s) :
    Calls Tryd.prog 17 #[.agg (st.cells s)] w (Gives w.heap.size 5 1 (statE s).length (u8s (statE s)) w) := by
  have HFIT := hide (fun f hf => (statF_good hg f hf).1)
  have HPUT := hide (statF_put hg)
  obtain ⟨S, hS⟩ : ∃ S, s = S := ⟨_, rfl⟩
  rw [hS] at HFIT HPUT
  have HSV := hide hS
  obtain ⟨hi1, hi2, hz2, hi4, hz4, hi6⟩ := hg
  rw [hS]
  obtain ⟨c, hn, ⟨mn, mi, ms⟩, ⟨xn, xi, xs⟩, su, ov⟩ := s
  rw [← hS]
  simp only [st.cells] at hi1 hi2 hz2 hi4 hz4 hi6 ⊢
  have HI2 := hide hi2
  have HZ2 := hide hz2
  have HI4 := hide hi4
  have HZ4 := hide hz4
  have HI6 := hide hi6
  obtain ⟨N, hN⟩ : ∃ N, (c % 18446744073709551616).toNat = N := ⟨_, rfl⟩
  have HN := hide (show IntKind.u64.wrap c = (N : Int) by rw [IntKind.wrap_u64, ← hN]; omega)
  obtain ⟨EE, hEE⟩ : ∃ EE, statE ⟨c, hn, ⟨mn, mi, ms⟩, ⟨xn, xi, xs⟩, su, ov⟩ = EE := ⟨_, rfl⟩
  rw [hEE]
  have HEE := hide hEE
  obtain ⟨V, hV⟩ : ∃ V, (w.alloc (.cells #[.int .i64 c, .bool hn, .bool mn, .int .i64 mi, .string ms, .bool xn, .int .i64 xi, .string xs, .int .i64 su, .bool ov] 36)).drew = V := ⟨_, rfl⟩
  have bx : Box V w.heap.size #[.int .i64 c, .bool hn, .bool mn, .int .i64 mi, .string ms, .bool xn, .int .i64 xi, .string xs, .int .i64 su, .bool ov] 36 := by rw [← hV]; exact (box_new _ _ _).drew
  have HLV := hide (show Le w V by rw [← hV]; exact ((Below.refl _ _).alloc (Nat.le_refl _) _).drew)
  have g0 := bx.later 0 (.int .i64 c) rfl
  have g1 := bx.later 1 (.bool hn) rfl
  have g2 := bx.later 2 (.bool mn) rfl
  have g3 := bx.later 3 (.int .i64 mi) rfl
  have g4 := bx.later 4 (.string ms) rfl
  have g5 := bx.later 5 (.bool xn) rfl
  have g6 := bx.later 6 (.int .i64 xi) rfl
  have g7 := bx.later 7 (.string xs) rfl
  have g8 := bx.later 8 (.int .i64 su) rfl
  have g9 := bx.later 9 (.bool ov) rfl
  have HV := hide hV
  have HNN := hide hN
  clear hV bx hi1 hi2 hz2 hi4 hz4 hi6 hN hEE
  go_enter Tryd.func17, Tryd.ntmps17
  go_wp2_with fail
  refine region_pi [(0, true), (1, true), (2, true), (4, true), (5, true), (8, true), (9, true), (12, true), (13, true), (16, true), (17, true), (20, true), (21, true), (3, false), (6, false), (7, false), (10, false), (11, true), (14, false), (15, true), (18, false), (19, false), (22, false), (23, false), (24, false), (25, false), (26, true), (27, true), (28, true), (29, true), (30, true)] (by kernel_rfl) (by kernel_rfl) ?_
  simp only [opsPi, List.filterMap_cons, List.filterMap_nil, List.getElem?_toArray, List.getElem?_cons_zero, List.getElem?_cons_succ, Option.map_some]
  rw [HV.out]
  repeat (first | (refine pi_take (v := _) rfl (fun W hW => by go_simp <;> exact rfl) ?_; simp only [Act.put, List.setIfInBounds_toArray, List.set_cons_zero, List.set_cons_succ]) | (refine pi_skip rfl ?_; simp only [Act.put, List.setIfInBounds_toArray, List.set_cons_zero, List.set_cons_succ]))
  clear g0 g1 g2 g3 g4 g5 g6 g7 g8 g9
  rw [HN.out]
  refine pi_run ?_
  go_wp2_with fail
  refine (refnum_any V 1 (N : Int)).mono ?_
  rintro e z1 ⟨rfl, hb⟩
  have HBz1 := hide (show Le V z1 from hb)
  have HLz1 := hide (HLV.out.trans HBz1.out)
  clear hb
  go_wp2_with fail
  refine ⟨HBz1.out, ?_⟩
  refine pi_run ?_
  go_wp2_with fail
  refine (refbit_any z1 hn).mono ?_
  rintro e w' ⟨rfl, rfl⟩
  go_wp2_with fail
  refine ⟨Le.refl _, ?_⟩
  refine pi_run ?_
  go_wp2_with fail
  refine (refnum_any z1 2 (bit hn : Int)).mono ?_
  rintro e z2 ⟨rfl, hb⟩
  have HBz2 := hide (show Le z1 z2 from hb)
  have HLz2 := hide (HLz1.out.trans HBz2.out)
  clear hb
  go_wp2_with fail
  refine ⟨HBz2.out, ?_⟩
  refine pi_run ?_
  go_wp2_with fail
  refine (refputvalue_any z2 mn mi ms HI2.out (by have := HZ2.out; omega)).mono ?_
  rintro e z3 ⟨v3, rfl, hown, hb⟩
  obtain ⟨A3, c3, rfl, hc3, hc3'⟩ := own_form hown
  have HR3 := hide (Row.of_own hown)
  obtain ⟨n3, hn3⟩ : ∃ n, (valE mn mi (byt ms)).length = n := ⟨_, rfl⟩
  rw [hn3] at hc3 ⊢
  have HC3 := hide hc3
  have HC3' := hide hc3'
  have HNL3 := hide hn3
  have HBz3 := hide (show Le z2 z3 from hb)
  have HLz3 := hide (HLz2.out.trans HBz3.out)
  clear hb hown hc3 hc3' hn3
  go_wp2_with fail
  refine ⟨HBz3.out, ?_⟩
  repeat (first | (refine pi_take (v := _) rfl (fun W hW => by go_simp <;> exact rfl) ?_; simp only [Act.put, List.setIfInBounds_toArray, List.set_cons_zero, List.set_cons_succ]) | (refine pi_skip rfl ?_; simp only [Act.put, List.setIfInBounds_toArray, List.set_cons_zero, List.set_cons_succ]))
  refine pi_run ?_
  go_wp2_with fail
  refine (refputvalue_any z3 xn xi xs HI4.out (by have := HZ4.out; omega)).mono ?_
  rintro e z4 ⟨v4, rfl, hown, hb⟩
  obtain ⟨A4, c4, rfl, hc4, hc4'⟩ := own_form hown
  have HR4 := hide (Row.of_own hown)
  obtain ⟨n4, hn4⟩ : ∃ n, (valE xn xi (byt xs)).length = n := ⟨_, rfl⟩
  rw [hn4] at hc4 ⊢
  have HC4 := hide hc4
  have HC4' := hide hc4'
  have HNL4 := hide hn4
  have HBz4 := hide (show Le z3 z4 from hb)
  have HLz4 := hide (HLz3.out.trans HBz4.out)
  clear hb hown hc4 hc4' hn4
  have HR3z4 := hide (HR3.out.le HBz4.out)
  go_wp2_with fail
  refine ⟨HBz4.out, ?_⟩
  repeat (first | (refine pi_take (v := _) rfl (fun W hW => by go_simp <;> exact rfl) ?_; simp only [Act.put, List.setIfInBounds_toArray, List.set_cons_zero, List.set_cons_succ]) | (refine pi_skip rfl ?_; simp only [Act.put, List.setIfInBounds_toArray, List.set_cons_zero, List.set_cons_succ]))
  refine pi_run ?_
  go_wp2_with fail
  refine (refzig_any z4 su HI6.out).mono ?_
  rintro e w' ⟨rfl, rfl⟩
  go_wp2_with fail
  refine ⟨Le.refl _, ?_⟩
  refine pi_run ?_
  go_wp2_with fail
  refine (refnum_any z4 5 (zig su : Int)).mono ?_
  rintro e z5 ⟨rfl, hb⟩
  have HBz5 := hide (show Le z4 z5 from hb)
  have HLz5 := hide (HLz4.out.trans HBz5.out)
  clear hb
  have HR3z5 := hide (HR3z4.out.le HBz5.out)
  have HR4z5 := hide (HR4.out.le HBz5.out)
  go_wp2_with fail
  refine ⟨HBz5.out, ?_⟩
  refine pi_run ?_
  go_wp2_with fail
  refine (refbit_any z5 ov).mono ?_
  rintro e w' ⟨rfl, rfl⟩
  go_wp2_with fail
  refine ⟨Le.refl _, ?_⟩
  refine pi_run ?_
  go_wp2_with fail
  refine (refnum_any z5 6 (bit ov : Int)).mono ?_
  rintro e z6 ⟨rfl, hb⟩
  have HBz6 := hide (show Le z5 z6 from hb)
  have HLz6 := hide (HLz5.out.trans HBz6.out)
  clear hb
  have HR3z6 := hide (HR3z5.out.le HBz6.out)
  have HR4z6 := hide (HR4z5.out.le HBz6.out)
  go_wp2_with fail
  refine ⟨HBz6.out, ?_⟩
  refine pi_run ?_
  go_wp2_with fail
  refine ⟨(Below.refl _ _).alloc (Nat.le_refl _) _, ?_⟩
  refine pi_run ?_
  go_wp2_with fail
  obtain ⟨X, hX⟩ : ∃ X, z6.alloc (.cells #[.int .i64 1, .bool false, .int .u64 (N : Int), .slice none 0 0, .int .i64 2, .bool false, .int .u64 (bit hn : Int), .slice none 0 0, .int .i64 3, .bool true, .int .u64 0, .slice A3 n3 c3, .int .i64 4, .bool true, .int .u64 0, .slice A4 n4 c4, .int .i64 5, .bool false, .int .u64 (zig su : Int), .slice none 0 0, .int .i64 6, .bool false, .int .u64 (bit ov : Int), .slice none 0 0] 54) = X := ⟨_, rfl⟩
  have hXrow : Row X X.heap.size (some ⟨z6.heap.size, 0, none⟩) (fcs (statV ⟨c, hn, ⟨mn, mi, ms⟩, ⟨xn, xi, xs⟩, su, ov⟩ A3 c3 A4 c4)) := by
    rw [← hX]
    have h := (row_new z6 #[.int .i64 1, .bool false, .int .u64 (N : Int), .slice none 0 0, .int .i64 2, .bool false, .int .u64 (bit hn : Int), .slice none 0 0, .int .i64 3, .bool true, .int .u64 0, .slice A3 n3 c3, .int .i64 4, .bool true, .int .u64 0, .slice A4 n4 c4, .int .i64 5, .bool false, .int .u64 (zig su : Int), .slice none 0 0, .int .i64 6, .bool false, .int .u64 (bit ov : Int), .slice none 0 0] 54 (0, 0)).more (show z6.heap.size + 1 ≤ (z6.alloc (.cells #[.int .i64 1, .bool false, .int .u64 (N : Int), .slice none 0 0, .int .i64 2, .bool false, .int .u64 (bit hn : Int), .slice none 0 0, .int .i64 3, .bool true, .int .u64 0, .slice A3 n3 c3, .int .i64 4, .bool true, .int .u64 0, .slice A4 n4 c4, .int .i64 5, .bool false, .int .u64 (zig su : Int), .slice none 0 0, .int .i64 6, .bool false, .int .u64 (bit ov : Int), .slice none 0 0] 54)).heap.size by simp)
    rw [← HNL3.out, ← HNL4.out, ← HNN.out] at h ⊢
    exact h
  have HLX := hide (show Le z6 X by rw [← hX]; exact (Below.refl _ _).alloc (Nat.le_refl _) _)
  have hXheld : Held X X.heap.size (statV ⟨c, hn, ⟨mn, mi, ms⟩, ⟨xn, xi, xs⟩, su, ov⟩ A3 c3 A4 c4) := statV_held (s := ⟨c, hn, ⟨mn, mi, ms⟩, ⟨xn, xi, xs⟩, su, ov⟩) (by show (valE mn mi (byt ms)).length ≤ c3; rw [HNL3.out]; exact HC3.out) HC3'.out (HR3z6.out.le HLX.out) (by show (valE xn xi (byt xs)).length ≤ c4; rw [HNL4.out]; exact HC4.out) HC4'.out (HR4z6.out.le HLX.out)
  rw [hX]
  have HXX := hide hX
  clear hX
  refine (refwput_any X _ 6 6 (statV ⟨c, hn, ⟨mn, mi, ms⟩, ⟨xn, xi, xs⟩, su, ov⟩ A3 c3 A4 c4) (statF ⟨c, hn, ⟨mn, mi, ms⟩, ⟨xn, xi, xs⟩, su, ov⟩) rfl rfl (by omega) (by rw [HSV.out]; exact HFIT.out) hXrow hXheld).mono ?_
  rintro e w21 ⟨v21, rfl, hown21, hb21⟩
  have HB21 := hide (show Le X w21 from hb21)
  have HBF := hide (show Below w.heap.size w w21 from HLz6.out.trans (HLX.out.trans HB21.out))
  have HOF := hide (show w21.ownsRow w.heap.size 5 1 v21 EE.length (u8s EE) by rw [HSV.out, HPUT.out, ← HSV.out, HEE.out] at hown21; exact own_more hown21 (HLz6.out.trans HLX.out).size)
  obtain ⟨A21, c21, rfl, -, -⟩ := own_form HOF.out
  clear hown21 hb21 hXrow hXheld
  go_wp2_with fail
  refine ⟨by rw [HXX.out]; exact HB21.out, ?_⟩
  repeat (first | (refine pi_take (v := _) rfl (fun W hW => by go_simp <;> exact rfl) ?_; simp only [Act.put, List.setIfInBounds_toArray, List.set_cons_zero, List.set_cons_succ]) | (refine pi_skip rfl ?_; simp only [Act.put, List.setIfInBounds_toArray, List.set_cons_zero, List.set_cons_succ]))
  refine pi_done ?_
  go_wp2_with fail
  go_ret
  exact ⟨_, rfl, HOF.out, HBF.out⟩
#print axioms refputstats_any
end Go.Proofs.YtjliocbdidiemaaDoor
