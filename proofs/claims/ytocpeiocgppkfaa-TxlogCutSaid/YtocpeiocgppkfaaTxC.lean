/-
  What becomes of write-ids, walked: one record more, by the document.
-/
import Derived.Test.YtocpeiocgppkfaaTxB
namespace Go.Proofs.Ytocpeiocgppkfaa
open Go.RowKit
set_option linter.unusedVariables false

set_option maxHeartbeats 4000000 in
theorem refnext_any (w : World) (A : Option Addr) (n c : Nat) (l : List Int) (op id : Int) (hl : l.length = n) (hn : n ≤ 1000000) (hr : Row w w.heap.size A (ints l)) :
    Calls Try.prog 13 #[.slice A n c, .agg #[.int .i64 op, .int .i64 id]] w (Gives2 w.heap.size 3 1 (tx.next l op id).1.length (ints (tx.next l op id).1) (.int .i64 (tx.next l op id).2) w) := by
  have HL := hide hl
  clear hl
  obtain ⟨W, hW⟩ : ∃ W, w.alloc (.cells #[.int .i64 op, .int .i64 id] 25) = W := ⟨_, rfl⟩
  have bx : Box W w.heap.size #[.int .i64 op, .int .i64 id] 25 := by rw [← hW]; exact box_new _ _ _
  have hLW : Le w W := by rw [← hW]; exact (Below.refl _ _).alloc (Nat.le_refl _) _
  have HW := hide hW
  clear hW
  have HLW := hide hLW
  have zW := hLW.size
  have hbxlt := bx.lt
  have hrW := (hLW.row hr (Nat.le_refl _)).more hLW.size
  have c0 := bx.cell 0 (.int .i64 op) rfl
  have c1 := bx.cell 1 (.int .i64 id) rfl
  have HBX := hide bx
  clear hLW bx hr
  go_enter Try.func13, Try.ntmps13
  go_wp2_with fail
  rw [HW.out]
  go_loop [6, 7] (fun s i => ∃ k m : Nat, k ≤ n ∧ i = .int .i64 k ∧ s = .int .i64 m ∧ Hid (tx.opens (l.take k) = m) ∧ m ≤ k) (fun _ i => n - (intOf i).toNat)
  case atStart => exact ⟨0, 0, Nat.zero_le _, rfl, rfl, hide rfl, Nat.le_refl _⟩
  case round =>
    obtain ⟨k, m, hk, rfl, rfl, HP, hm⟩ := hrel
    by_cases hkn : k < n
    · obtain ⟨x, hx⟩ : ∃ x, l[k]? = some x := ⟨_, List.getElem?_eq_getElem (by rw [HL.out]; exact hkn)⟩
      obtain ⟨bA, oA, rfl, -, hcA⟩ := hrW.at_ (ints_at hx)
      have HS := hide (opens_step hx HP.out)
      clear hx
      by_cases h1 : x = 1
      · subst h1
        have HN := hide (HS.out.1 rfl)
        go_wp2_with fail
        exact ⟨⟨k + 1, m + 1, by omega, by go_num, by go_num, HN, by omega⟩, by simp [intOf]; omega⟩
      · have HN := hide (HS.out.2 h1)
        go_wp2_with fail
        exact ⟨⟨k + 1, m, by omega, by go_num, rfl, HN, by omega⟩, by simp [intOf]; omega⟩
    · obtain rfl : k = n := by omega
      have HE := hide (show tx.opens l = m by have := HP.out; rwa [List.take_of_length_le (by rw [HL.out]; exact Nat.le_refl _)] at this)
      clear HP
      by_cases o1 : op = 1
      · subst o1
        by_cases hid : id = (k : Int) + 1
        · subst hid
          by_cases h8 : 8 ≤ m
          · have HX := hide (tx.next_begin_big (l := l) (id := (k : Int) + 1) (by rw [HL.out]) (by rw [HE.out]; exact h8))
            go_wp2_with fail
            go_ret2
            exact gives_none HX.out HLW.out
          · have HX := hide (tx.next_begin (l := l) (id := (k : Int) + 1) (by rw [HL.out]) (by rw [HE.out]; omega))
            go_wp2_with (first | (at_builtin; refine wpList_append_row _ rfl (.tmp 34) (.tmp 35) 23 rfl W.heap.size 3 infoI Try.underlying23 rfl (by omega) _ 0 [] rfl (World.ownsRow_lit _ #[] 0 (Nat.le_refl _) (by simp) rfl) W.heap.size _ k c (ints l) rfl (by rw [ints_len, HL.out, Nat.mul_one]) (hrW.alloc (Nat.le_refl _) _) ints_one (by simp only [maxLen]; omega) (by omega) (by simp) ?_; intro v1 w1 hown1 hg1 hat1; rw [Nat.zero_add, List.nil_append] at hown1; obtain ⟨A1, cc1, rfl, hc1, hc1'⟩ := own_form hown1; have HO1 := hide hown1; have HB1 := hide (show Le W w1 from ((Below.refl _ _).alloc (Nat.le_refl _) _).grown hg1 (by simp) (fun g hg => blk_ge hg (Nat.le_refl _))); have zb := HB1.out.size; skip; clear hown1 hg1 hat1) | (at_builtin; refine wpList_append_row _ rfl (.tmp 36) (.tmp 37) 23 rfl W.heap.size 3 infoI Try.underlying23 rfl (by omega) _ k _ rfl (HO1.out.alloc _) _ (some ⟨w1.heap.size, 0, none⟩) 1 1 [_] rfl rfl (row_one _ _ _ _) (one_int _ _) (by simp only [maxLen]; omega) (by omega) (by simp; omega) ?_; intro v' w' hown' hg hat; have HO' := hide hown'; have HB' := hide (((HLW.out.trans HB1.out).alloc (by omega) _).grown hg (by simp; omega) (fun g h => by have := own_ge HO1.out h (Nat.le_refl _); omega)); clear hown' hg hat))
            go_ret2
            exact gives_some (n := k + 1) HX.out (by simp [HL.out]) (by rw [← ints_append]; exact own_more HO'.out zW) HB'.out
        · have HX := hide (tx.next_begin_bad (l := l) (id := id) (by rw [HL.out]; exact hid))
          go_wp2_with fail
          go_ret2
          exact gives_none HX.out HLW.out
      · by_cases o2 : op = 2
        · subst o2
          by_cases hlo : id < 1
          · have HX := hide (tx.next_end_bad (l := l) (op := 2) (id := id) (by omega) (by omega))
            go_wp2_with fail
            go_ret2
            exact gives_none HX.out HLW.out
          · by_cases hhi : (k : Int) < id
            · have HX := hide (tx.next_end_bad (l := l) (op := 2) (id := id) (by omega) (by rw [HL.out]; omega))
              go_wp2_with fail
              go_ret2
              exact gives_none HX.out HLW.out
            · obtain ⟨j, hk⟩ : ∃ j : Nat, id = (j : Int) + 1 := ⟨(id - 1).toNat, by omega⟩
              subst hk
              have hkn : j < k := by omega
              obtain ⟨x, hx⟩ : ∃ x, l[j]? = some x := ⟨_, List.getElem?_eq_getElem (by rw [HL.out]; exact hkn)⟩
              obtain ⟨bA, oA, rfl, hbA, hcell⟩ := hrW.at_ (ints_at hx)
              have hw : IntKind.i64.wrap ((j : Int) + 1 - 1) = (j : Int) := by rw [IntWalk.i64_in _ (by omega)]; omega
              have HXX := hide hx
              clear hx
              by_cases hx1 : x = 1
              · subst hx1
                have HX := hide (tx.next_end (l := l) (op := 2) (by omega) rfl HXX.out)
                go_wp2_with (at_builtin; refine wpList_append_row _ rfl (.tmp 61) (.tmp 62) 23 rfl W.heap.size 3 infoI Try.underlying23 rfl (by omega) _ 0 [] rfl (World.ownsRow_lit _ #[] 0 (Nat.le_refl _) (by simp) rfl) W.heap.size _ k c (ints l) rfl (by rw [ints_len, HL.out, Nat.mul_one]) (hrW.alloc (Nat.le_refl _) _) ints_one (by simp only [maxLen]; omega) (by omega) (by simp) ?_; intro v1 w1 hown1 hg1 hat1; rw [Nat.zero_add, List.nil_append] at hown1; obtain ⟨A1, cc1, rfl, hc1, hc1'⟩ := own_form hown1; have HO1 := hide hown1; have HB1 := hide (show Le W w1 from ((Below.refl _ _).alloc (Nat.le_refl _) _).grown hg1 (by simp) (fun g hg => blk_ge hg (Nat.le_refl _))); have zb := HB1.out.size; obtain ⟨g, cap, hv, hge, hlt⟩ := HO1.out.form (by omega); have hA : A1 = some ⟨g, 0, none⟩ := (by injection hv); subst hA; have hc2 : w1.cell? ⟨g, j, none⟩ = some (.int .i64 1) := (by rw [HO1.out.cellAt j (by omega)]; exact ints_at HXX.out); have hfz := HO1.out.frozenAt j; have d0 := HBX.out.below HB1.out HBX.out.lt; have e0 := d0.cell 0 (.int .i64 2) rfl; have e1 := d0.cell 1 (.int .i64 ((j : Int) + 1)) rfl; have hne : g ≠ w.heap.size := (by omega); clear hv d0; clear hown1 hg1 hat1)
                go_ret2
                exact gives_some (n := k) HX.out (by simp [HL.out]) (by rw [← ints_set]; exact own_more (HO1.out.stored j (.int .i64 2)).1 zW) ((HLW.out.trans HB1.out).setCell (p := ⟨g, j, none⟩) (by show w.heap.size ≤ g; omega) _)
              · have HX := hide (tx.next_end_bad (l := l) (op := 2) (id := (j : Int) + 1) (by omega) (fun h => hx1 (by have h2 := h.2.2; rw [show ((j : Int) + 1 - 1).toNat = j by omega, HXX.out] at h2; injection h2)))
                have hxb : (x != 1) = true := by simpa using hx1
                go_wp2_with fail
                go_ret2
                exact gives_none HX.out HLW.out
        · by_cases o3 : op = 3
          · subst o3
            by_cases hlo : id < 1
            · have HX := hide (tx.next_end_bad (l := l) (op := 3) (id := id) (by omega) (by omega))
              go_wp2_with fail
              go_ret2
              exact gives_none HX.out HLW.out
            · by_cases hhi : (k : Int) < id
              · have HX := hide (tx.next_end_bad (l := l) (op := 3) (id := id) (by omega) (by rw [HL.out]; omega))
                go_wp2_with fail
                go_ret2
                exact gives_none HX.out HLW.out
              · obtain ⟨j, hk⟩ : ∃ j : Nat, id = (j : Int) + 1 := ⟨(id - 1).toNat, by omega⟩
                subst hk
                have hkn : j < k := by omega
                obtain ⟨x, hx⟩ : ∃ x, l[j]? = some x := ⟨_, List.getElem?_eq_getElem (by rw [HL.out]; exact hkn)⟩
                obtain ⟨bA, oA, rfl, hbA, hcell⟩ := hrW.at_ (ints_at hx)
                have hw : IntKind.i64.wrap ((j : Int) + 1 - 1) = (j : Int) := by rw [IntWalk.i64_in _ (by omega)]; omega
                have HXX := hide hx
                clear hx
                by_cases hx1 : x = 1
                · subst hx1
                  have HX := hide (tx.next_end (l := l) (op := 3) (by omega) rfl HXX.out)
                  go_wp2_with (at_builtin; refine wpList_append_row _ rfl (.tmp 61) (.tmp 62) 23 rfl W.heap.size 3 infoI Try.underlying23 rfl (by omega) _ 0 [] rfl (World.ownsRow_lit _ #[] 0 (Nat.le_refl _) (by simp) rfl) W.heap.size _ k c (ints l) rfl (by rw [ints_len, HL.out, Nat.mul_one]) (hrW.alloc (Nat.le_refl _) _) ints_one (by simp only [maxLen]; omega) (by omega) (by simp) ?_; intro v1 w1 hown1 hg1 hat1; rw [Nat.zero_add, List.nil_append] at hown1; obtain ⟨A1, cc1, rfl, hc1, hc1'⟩ := own_form hown1; have HO1 := hide hown1; have HB1 := hide (show Le W w1 from ((Below.refl _ _).alloc (Nat.le_refl _) _).grown hg1 (by simp) (fun g hg => blk_ge hg (Nat.le_refl _))); have zb := HB1.out.size; obtain ⟨g, cap, hv, hge, hlt⟩ := HO1.out.form (by omega); have hA : A1 = some ⟨g, 0, none⟩ := (by injection hv); subst hA; have hc2 : w1.cell? ⟨g, j, none⟩ = some (.int .i64 1) := (by rw [HO1.out.cellAt j (by omega)]; exact ints_at HXX.out); have hfz := HO1.out.frozenAt j; have d0 := HBX.out.below HB1.out HBX.out.lt; have e0 := d0.cell 0 (.int .i64 3) rfl; have e1 := d0.cell 1 (.int .i64 ((j : Int) + 1)) rfl; have hne : g ≠ w.heap.size := (by omega); clear hv d0; clear hown1 hg1 hat1)
                  go_ret2
                  exact gives_some (n := k) HX.out (by simp [HL.out]) (by rw [← ints_set]; exact own_more (HO1.out.stored j (.int .i64 3)).1 zW) ((HLW.out.trans HB1.out).setCell (p := ⟨g, j, none⟩) (by show w.heap.size ≤ g; omega) _)
                · have HX := hide (tx.next_end_bad (l := l) (op := 3) (id := (j : Int) + 1) (by omega) (fun h => hx1 (by have h2 := h.2.2; rw [show ((j : Int) + 1 - 1).toNat = j by omega, HXX.out] at h2; injection h2)))
                  have hxb : (x != 1) = true := by simpa using hx1
                  go_wp2_with fail
                  go_ret2
                  exact gives_none HX.out HLW.out
          · have HX := hide (tx.next_none (l := l) (op := op) (id := id) (by omega))
            go_wp2_with fail
            go_ret2
            exact gives_none HX.out HLW.out
#print axioms refnext_any
end Go.Proofs.Ytocpeiocgppkfaa
