/-
  Records, walked: all that bytes begin with, by the program and by the document.
-/
import Derived.Test.YtocpeiocgppkfaaTyC
import Derived.Test.YtocpeiocgppkfaaTxE
namespace Go.Proofs.Ytocpeiocgppkfaa
open Go.RowKit
set_option linter.unusedVariables false

theorem inforR : (Try.prog.info? 25).map (fun i => (i.zero, i.size, i.bytes)) = some (some (.agg #[.int .i64 0, .int .i64 0]), 2, 16) := by kernel_rfl
theorem take_step {l : List Nat} {at_ : Nat} {o : List (Int × Int)} {op id : Int} {k : Nat} (h : ty.take l = (o ++ (ty.take (l.drop at_)).1, at_ + (ty.take (l.drop at_)).2)) (h1 : ty.one (l.drop at_) = some ((op, id), k)) :
    ty.take l = ((o ++ [(op, id)]) ++ (ty.take (l.drop (at_ + k))).1, (at_ + k) + (ty.take (l.drop (at_ + k))).2) := by
  rw [h, ty.take_some h1, List.drop_drop, List.append_assoc, Nat.add_assoc]
  rfl

set_option maxRecDepth 100000 in
set_option maxHeartbeats 8000000 in
theorem txtake_any (w : World) (b : Nat) (A : Option Addr) (n c : Nat) (l : List Nat) (hl : l.length = n) (hn : n ≤ 1000000) (hnc : n ≤ c) (hc : c ≤ maxLen) (h8 : ∀ x ∈ l, x < 256) (hb : b < w.heap.size) (ht : HasTab w b) (hr : Row w w.heap.size A (u8s l)) :
    Calls Try.prog 20 #[.pointer (some ⟨b, 0, none⟩), .slice A n c] w (Gives2 w.heap.size 35 2 (ty.take l).1.length (rcs (ty.take l).1) (.int .i64 ((ty.take l).2 : Nat)) w) := by
  have HL := hide hl
  have H8 := hide h8
  have HTB := hide ht
  have hcm : c ≤ 9223372036854775807 := hc
  clear hl h8 ht
  go_enter Try.func20, Try.ntmps20
  go_wp2_with fail
  go_loopw [6, 7] (fun v i wr => ∃ (a K c3 : Nat) (A3 : Option Addr) (o : List (Int × Int)), v = .slice A3 K c3 ∧ i = .int .i64 a ∧ a ≤ n ∧ K ≤ a ∧ Hid (o.length = K) ∧ Hid (ty.take l = (o ++ (ty.take (l.drop a)).1, a + (ty.take (l.drop a)).2)) ∧
    Hid (wr.ownsRow w.heap.size 35 2 (.slice A3 K c3) K (rcs o)) ∧ Hid (Le w wr)) (fun _ i _ => n - (intOf i).toNat)
  case atStart => exact ⟨0, 0, 0, none, [], rfl, rfl, Nat.zero_le _, Nat.le_refl _, hide rfl, hide (by simp), hide (World.ownsRow_nil _ _ _ _), hide (Below.refl _ _)⟩
  case round =>
    obtain ⟨a, K, c3, A3, o, rfl, rfl, han, hKa, HOL, HT, HO, HB⟩ := hrel
    have hz := HB.out.size
    have HD8 := hide (drop8 H8.out a)
    have HDL := hide (show (l.drop a).length = n - a by rw [List.length_drop, HL.out])
    have HTW := hide (hasTab_below HTB.out HB.out hb)
    have hbr : b < wr.heap.size := by omega
    by_cases hca : c = a
    · have hnil : l.drop a = [] := List.length_eq_zero_iff.1 (by rw [HDL.out]; omega)
      have HN := hide (show ty.take l = (o, a) by rw [HT.out, hnil, ty.take_none ty.one_nil]; simp)
      have HNIL := hide hnil
      clear hnil
      go_wp2_with fail
      refine (txone_any wr b A (n - a) 0 (l.drop a) HDL.out (by omega) (by omega) (by unfold maxLen; omega) HD8.out hbr HTW.out (by rw [HNIL.out]; exact Row.none_)).mono ?_
      rintro e w2 ⟨hb2, h⟩
      rcases h with ⟨-, op, id, rfl⟩ | ⟨op, id, k, h1, -⟩
      · have HB2 := hide (show Le w w2 from HB.out.trans hb2)
        have HO2 := hide (own_below HO.out hb2)
        clear hb2
        go_wp2_with fail
        go_ret2
        rw [HN.out]
        exact ⟨_, rfl, by simp only; rw [HOL.out]; exact HO2.out.alloc _, HB2.out.alloc HB2.out.size _⟩
      · rw [HNIL.out, ty.one_nil] at h1; cases h1
    · have HRD := hide (show Row wr wr.heap.size (A.map (·.add a)) (u8s (l.drop a)) by rw [← u8s_drop]; exact (hr.le HB.out).drop a (fun _ => rfl))
      go_wp2_with fail
      refine (txone_any wr b (A.map (·.add a)) (n - a) (c - a) (l.drop a) HDL.out (by omega) (by omega) (by unfold maxLen at hc ⊢; omega) HD8.out hbr HTW.out HRD.out).mono ?_
      rintro e w2 ⟨hb2, h⟩
      rcases h with ⟨h1, op, id, rfl⟩ | ⟨op, id, k, h1, rfl⟩
      · have HB2 := hide (show Le w w2 from HB.out.trans hb2)
        have HO2 := hide (own_below HO.out hb2)
        have HN := hide (show ty.take l = (o, a) by rw [HT.out, ty.take_none h1]; simp)
        clear hb2 h1
        go_wp2_with fail
        go_ret2
        rw [HN.out]
        exact ⟨_, rfl, by simp only; rw [HOL.out]; exact HO2.out.alloc _, HB2.out.alloc HB2.out.size _⟩
      · have hs := ty.one_spec h1
        have hk1 := hs.1
        have hk2 := hs.2.1
        rw [HDL.out] at hk2
        have HT2 := hide (take_step HT.out h1)
        have hak : IntKind.i64.wrap ((a : Int) + (k : Int)) = ((a + k : Nat) : Int) := by rw [IntKind.wrap_i64]; omega
        have hkne : ¬ (k = 0) := by omega
        obtain ⟨V, hV⟩ : ∃ V, w2.alloc (.cells #[.int .i64 op, .int .i64 id] 35) = V := ⟨_, rfl⟩
        have hzV : V.heap.size = w2.heap.size + 1 := by rw [← hV]; simp
        have HLV := hide (show Le wr V by rw [← hV]; exact hb2.alloc hb2.size _)
        have HOV := hide (own_below HO.out HLV.out)
        have hrow := rec_row V op id 35
        rw [hzV] at hrow
        have HROW := hide hrow
        have HV := hide hV
        have hz2 := hb2.size
        clear hV hb2 hrow hs h1
        go_wp2_with (at_builtin; rw [HV.out]; refine wpList_append_row _ rfl (.tmp 22) (.tmp 24) 31 rfl w.heap.size 35 infoR Try.underlying31 rfl (by omega) (.slice A3 K c3) K _ rfl (HOV.out.alloc _) _ (some ⟨w2.heap.size + 1, 0, none⟩) 1 1 _ rfl rfl HROW.out (by intro z hz; simp at hz; rcases hz with rfl | rfl <;> rfl) (by simp only [maxLen]; omega) (by omega) (by simp; omega) ?_; intro v' w' hown' hg hat; obtain ⟨A', c', rfl, -, -⟩ := own_form hown'; have HO' := hide hown'; have HG := hide hg; clear hown' hg hat)
        have HB' := hide (show Below w.heap.size w w' from ((HB.out.trans HLV.out).alloc (by omega) _).trans (below_own HG.out (Nat.le_refl _) (by simp; omega) (fun g h => own_ge HOV.out h (Nat.le_refl _))))
        refine ⟨⟨a + k, K + 1, c', A', o ++ [(op, id)], rfl, by go_num, by omega, by omega, hide (by simp [HOL.out]), HT2, hide ?_, HB'⟩, by simp [intOf]; omega⟩
        rw [rcs_append]
        exact HO'.out
#print axioms txtake_any

set_option maxRecDepth 100000 in
set_option maxHeartbeats 8000000 in
theorem reftxtake_any (w : World) (A : Option Addr) (n c : Nat) (l : List Nat) (hl : l.length = n) (hn : n ≤ 1000000) (hnc : n ≤ c) (hc : c ≤ maxLen) (h8 : ∀ x ∈ l, x < 256) (hr : Row w w.heap.size A (u8s l)) :
    Calls Try.prog 21 #[.slice A n c] w (Gives2 w.heap.size 25 2 (ty.take l).1.length (rcs (ty.take l).1) (.int .i64 ((ty.take l).2 : Nat)) w) := by
  have HL := hide hl
  have H8 := hide h8
  have hcm : c ≤ 9223372036854775807 := hc
  clear hl h8
  go_enter Try.func21, Try.ntmps21
  go_wp2_with fail
  obtain ⟨W0, hW0⟩ : ∃ W0, w.alloc (.cells #[] 25) = W0 := ⟨_, rfl⟩
  rw [hW0]
  have hs1 : W0.ownsRow w.heap.size 25 2 (.slice (some ⟨w.heap.size, 0, none⟩) 0 0) 0 (rcs []) := by rw [← hW0]; exact World.ownsRow_lit _ #[] 0 (Nat.le_refl _) (by simp) rfl
  have hs2 : Below w.heap.size w W0 := by rw [← hW0]; exact (Below.refl _ _).alloc (Nat.le_refl _) _
  clear hW0
  go_loopw [4, 5] (fun v i wr => ∃ (a K c3 : Nat) (A3 : Option Addr) (o : List (Int × Int)), v = .slice A3 K c3 ∧ i = .int .i64 a ∧ a ≤ n ∧ K ≤ a ∧ Hid (o.length = K) ∧ Hid (ty.take l = (o ++ (ty.take (l.drop a)).1, a + (ty.take (l.drop a)).2)) ∧
    Hid (wr.ownsRow w.heap.size 25 2 (.slice A3 K c3) K (rcs o)) ∧ Hid (Le w wr)) (fun _ i _ => n - (intOf i).toNat)
  case atStart => exact ⟨0, 0, 0, _, [], rfl, rfl, Nat.zero_le _, Nat.le_refl _, hide rfl, hide (by simp), hide hs1, hide hs2⟩
  case round =>
    obtain ⟨a, K, c3, A3, o, rfl, rfl, han, hKa, HOL, HT, HO, HB⟩ := hrel
    have hz := HB.out.size
    have HD8 := hide (drop8 H8.out a)
    have HDL := hide (show (l.drop a).length = n - a by rw [List.length_drop, HL.out])
    by_cases hca : c = a
    · have hnil : l.drop a = [] := List.length_eq_zero_iff.1 (by rw [HDL.out]; omega)
      have HN := hide (show ty.take l = (o, a) by rw [HT.out, hnil, ty.take_none ty.one_nil]; simp)
      have HNIL := hide hnil
      clear hnil
      go_wp2_with fail
      refine (refone_any wr A (n - a) 0 (l.drop a) HDL.out (by omega) (by omega) (by unfold maxLen; omega) HD8.out (by rw [HNIL.out]; exact Row.none_)).mono ?_
      rintro e w2 ⟨hb2, h⟩
      rcases h with ⟨-, op, id, rfl⟩ | ⟨op, id, k, h1, -⟩
      · have HB2 := hide (show Le w w2 from HB.out.trans hb2)
        have HO2 := hide (own_below HO.out hb2)
        clear hb2
        go_wp2_with fail
        go_ret2
        rw [HN.out]
        exact ⟨_, rfl, by simp only; rw [HOL.out]; exact HO2.out.alloc _, HB2.out.alloc HB2.out.size _⟩
      · rw [HNIL.out, ty.one_nil] at h1; cases h1
    · have HRD := hide (show Row wr wr.heap.size (A.map (·.add a)) (u8s (l.drop a)) by rw [← u8s_drop]; exact (hr.le HB.out).drop a (fun _ => rfl))
      go_wp2_with fail
      refine (refone_any wr (A.map (·.add a)) (n - a) (c - a) (l.drop a) HDL.out (by omega) (by omega) (by unfold maxLen at hc ⊢; omega) HD8.out HRD.out).mono ?_
      rintro e w2 ⟨hb2, h⟩
      rcases h with ⟨h1, op, id, rfl⟩ | ⟨op, id, k, h1, rfl⟩
      · have HB2 := hide (show Le w w2 from HB.out.trans hb2)
        have HO2 := hide (own_below HO.out hb2)
        have HN := hide (show ty.take l = (o, a) by rw [HT.out, ty.take_none h1]; simp)
        clear hb2 h1
        go_wp2_with fail
        go_ret2
        rw [HN.out]
        exact ⟨_, rfl, by simp only; rw [HOL.out]; exact HO2.out.alloc _, HB2.out.alloc HB2.out.size _⟩
      · have hs := ty.one_spec h1
        have hk1 := hs.1
        have hk2 := hs.2.1
        rw [HDL.out] at hk2
        have HT2 := hide (take_step HT.out h1)
        have hak : IntKind.i64.wrap ((a : Int) + (k : Int)) = ((a + k : Nat) : Int) := by rw [IntKind.wrap_i64]; omega
        have hkne : ¬ (k = 0) := by omega
        obtain ⟨V, hV⟩ : ∃ V, w2.alloc (.cells #[.int .i64 op, .int .i64 id] 25) = V := ⟨_, rfl⟩
        have hzV : V.heap.size = w2.heap.size + 1 := by rw [← hV]; simp
        have HLV := hide (show Le wr V by rw [← hV]; exact hb2.alloc hb2.size _)
        have HOV := hide (own_below HO.out HLV.out)
        have hrow := rec_row V op id 25
        rw [hzV] at hrow
        have HROW := hide hrow
        have HV := hide hV
        have hz2 := hb2.size
        clear hV hb2 hrow hs h1
        go_wp2_with (at_builtin; rw [HV.out]; refine wpList_append_row _ rfl (.tmp 20) (.tmp 22) 22 rfl w.heap.size 25 inforR Try.underlying22 rfl (by omega) (.slice A3 K c3) K _ rfl (HOV.out.alloc _) _ (some ⟨w2.heap.size + 1, 0, none⟩) 1 1 _ rfl rfl HROW.out (by intro z hz; simp at hz; rcases hz with rfl | rfl <;> rfl) (by simp only [maxLen]; omega) (by omega) (by simp; omega) ?_; intro v' w' hown' hg hat; obtain ⟨A', c', rfl, -, -⟩ := own_form hown'; have HO' := hide hown'; have HG := hide hg; clear hown' hg hat)
        have HB' := hide (show Below w.heap.size w w' from ((HB.out.trans HLV.out).alloc (by omega) _).trans (below_own HG.out (Nat.le_refl _) (by simp; omega) (fun g h => own_ge HOV.out h (Nat.le_refl _))))
        refine ⟨⟨a + k, K + 1, c', A', o ++ [(op, id)], rfl, by go_num, by omega, by omega, hide (by simp [HOL.out]), HT2, hide ?_, HB'⟩, by simp [intOf]; omega⟩
        rw [rcs_append]
        exact HO'.out
#print axioms reftxtake_any
end Go.Proofs.Ytocpeiocgppkfaa
