/-
  Lists of ids, walked: a list with few exceptions, and whether two lists are the same.
-/
import Derived.Test.YtnihladjafnjpaaListMath
import Derived.Test.YtnihladjafnjpaaBox
namespace Go.Proofs.Ytnihladjafnjpaa
open Go.RowKit
set_option linter.unusedVariables false

theorem few_any (w : World) (A : Option Addr) (n c : Nat) (hnc : n ≤ c) (hc : c ≤ maxLen) :
    Calls Try.prog 8 #[.slice A n c] w fun e w' => e = .returned (.slice A (min n 30) c) ∧ w = w' := by
  unfold maxLen at hc
  by_cases h : 30 < n
  · rw [Nat.min_eq_right (by omega)]
    go_enter Try.func8, Try.ntmps8
    go_wp2_with fail
    go_ret
    exact ⟨rfl, rfl⟩
  · rw [Nat.min_eq_left (by omega)]
    go_enter Try.func8, Try.ntmps8
    go_wp2_with fail
    go_ret
    exact ⟨rfl, rfl⟩

theorem less_any (w : World) (H : Int) (A : Option Addr) (n c m : Nat) (hm : min n 30 = m) (hnc : n ≤ c) (hc : c ≤ maxLen) :
    Calls Try.prog 7 #[.agg #[.int .i64 H, .slice A n c]] w fun e w' => e = .returned (.agg #[.int .i64 H, .slice A m c]) ∧ Below w.heap.size w w' := by
  go_enter Try.func7, Try.ntmps7
  go_wp2_with fail
  refine (few_any _ A n c hnc hc).mono ?_
  rintro e w' ⟨rfl, rfl⟩
  rw [hm]
  clear hm
  go_wp2_with fail
  obtain ⟨W, hW, -, hbox1, hb, -⟩ := two_boxes w #[.int .i64 H, .slice A m c] #[.int .i64 H, .slice A m c] 24
  rw [hW]
  exact bodyPost_ret (box_results rfl _ hbox1 rfl Try.underlying24 rfl rfl) rfl ⟨rfl, hb⟩
theorem infoI : (Try.prog.info? 3).map (fun i => (i.zero, i.size, i.bytes)) = some (some (.int .i64 0), 1, 8) := by kernel_rfl
set_option maxHeartbeats 1000000 in
theorem current_any (w : World) (A : Option Addr) (n c : Nat) (l : List Int) (hl : l.length = n) (hn : n ≤ 1000000000) (hr : Row w w.heap.size A (ints l)) :
    Calls Try.prog 10 #[.slice A n c] w fun e w' => ∃ v, e = .returned (.agg #[.int .i64 (n : Int), v]) ∧ w'.ownsRow w.heap.size 3 1 v (exc l n).length (ints (exc l n)) ∧ Below w.heap.size w w' := by
  have HL := hide hl
  clear hl
  go_enter Try.func10, Try.ntmps10
  go_wp2_with fail
  obtain ⟨W, hW, hbox0, hbox1, hb, hz⟩ := two_boxes w #[.int .i64 0, .slice none 0 0] #[.int .i64 n, .slice none 0 0] 24
  rw [hW]
  clear hW
  go_loopw [11] (fun i wr => ∃ (k : Nat) (v : Value), k ≤ n ∧ i = .int .i64 k ∧ Hid (Box wr w.heap.size #[.int .i64 0, .slice none 0 0] 24) ∧ Hid (Box wr (w.heap.size + 1) #[.int .i64 n, v] 24) ∧ Hid (wr.ownsRow (w.heap.size + 2) 3 1 v (exc l k).length (ints (exc l k))) ∧ Hid (Below w.heap.size w wr) ∧ w.heap.size + 2 ≤ wr.heap.size) (fun i _ => n - (intOf i).toNat)
  case atStart => exact ⟨0, _, Nat.zero_le _, rfl, hide hbox0, hide hbox1, hide (World.ownsRow_nil _ _ _ _), hide hb, by omega⟩
  case round =>
    obtain ⟨k, v, hk, rfl, H0, H1, HO, HB, hz2⟩ := hrel
    have c0 := H1.out.cell 0 (.int .i64 n) rfl
    have c1 := H1.out.cell 1 v rfl
    have f1 := H1.out.frozen 1
    by_cases hkn : k < n
    · obtain ⟨x, hx⟩ : ∃ x, l[k]? = some x := ⟨_, List.getElem?_eq_getElem (by rw [HL.out]; exact hkn)⟩
      obtain ⟨bA, oA, rfl, hbA, hcA⟩ := hr.at_ (ints_at hx)
      have hc2 : wr.cell? ⟨bA, oA + k, none⟩ = some (.int .i64 x) := by rw [HB.out.cell (p := ⟨bA, oA + k, none⟩) hbA]; exact hcA
      have HX := hide hx
      clear hx hcA
      by_cases h2 : x = 2
      · subst h2
        have HE := hide (exc_same HX.out)
        go_wp2_with fail
        exact ⟨⟨k + 1, v, by omega, by go_num, H0, H1, hide (by rw [HE.out]; exact HO.out), HB, hz2⟩, by simp [intOf]; omega⟩
      · have HE := hide (exc_more HX.out h2)
        have hel := exc_len l k
        obtain ⟨m, hm⟩ : ∃ m, (exc l k).length = m := ⟨_, rfl⟩
        have HM := hide hm
        have HO2 := hide (show wr.ownsRow (w.heap.size + 2) 3 1 v m (ints (exc l k)) by rw [← hm]; exact HO.out)
        rw [hm] at hel
        clear hm HO
        obtain ⟨AV, cV, rfl, -, -⟩ := own_form HO2.out
        go_wp2_with (at_builtin; refine wpList_append_row _ rfl (.tmp 19) (.tmp 22) 22 rfl (w.heap.size + 2) 3 infoI Try.underlying22 rfl (by omega) _ m _ rfl (HO2.out.alloc _) _ (some ⟨wr.heap.size, 0, none⟩) 1 1 [_] rfl rfl (row_one _ _ _ _) (one_int _ _) (by simp only [maxLen]; omega) (by omega) (by simp; omega) ?_; intro v' w' hown' hg hat; obtain ⟨A', c', rfl, -, -⟩ := own_form hown'; have hge : ∀ g, (Value.slice AV m cV).ownBlock = some g → w.heap.size + 2 ≤ g := (fun g h => own_ge HO2.out h (Nat.le_refl _)); have b0 := (H0.out.alloc _).grown hg (fun g h e => by have := hge g h; omega); have b1 := (H1.out.alloc _).grown hg (fun g h e => by have := hge g h; omega); have e1 := b1.cell 1 (.slice AV m cV) rfl; have g1 := b1.frozen 1; have B0 := hide b0; have B1 := hide b1; have HB' := hide ((HB.out.alloc (by omega) _).grown hg (by simp; omega) (fun g h => by have := hge g h; omega)); have HO' := hide hown'; have hz' := hg.size; clear b0 b1 hown' hg hat)
        refine ⟨⟨k + 1, .slice A' (m + 1) c', by omega, by go_num, hide (B0.out.other (by simp) _), hide (B1.out.set 1 _), hide ?_, hide (HB'.out.setCell (by simp) _), by simp at hz' ⊢; omega⟩, by simp [intOf]; omega⟩
        have h3 := own_other HO'.out (a := ⟨w.heap.size + 1, 1, none⟩) (by simp) (.slice A' (m + 1) c')
        rw [HE.out, List.length_append, HM.out, ← ints_append]
        exact h3
    · obtain rfl : k = n := by omega
      obtain ⟨AV, cV, rfl, -, -⟩ := own_form HO.out
      have r0 := H0.out.cell 0 (.int .i64 0) rfl
      have r1 := H0.out.cell 1 (.slice none 0 0) rfl
      have q0 := H0.out.frozen 0
      have q1 := H0.out.frozen 1
      go_wp2_with fail
      refine bodyPost_ret (box_results rfl _ ((H0.out.set 0 _).set 1 _) rfl Try.underlying24 rfl rfl) rfl ?_
      exact ⟨_, rfl, own_more (own_other (own_other HO.out (by simp) _) (by simp) _) (by omega), (HB.out.setCell (by simp) _).setCell (by simp) _⟩
set_option maxHeartbeats 1000000 in
theorem refcurrent_any (w : World) (A : Option Addr) (n c : Nat) (l : List Int) (hl : l.length = n) (hn : n ≤ 1000000000) (hr : Row w w.heap.size A (ints l)) :
    Calls Try.prog 11 #[.slice A n c] w fun e w' => ∃ v, e = .returned (.agg #[.int .i64 (n : Int), v]) ∧ w'.ownsRow w.heap.size 3 1 v (exc l n).length (ints (exc l n)) ∧ Below w.heap.size w w' := by
  have HL := hide hl
  clear hl
  go_enter Try.func11, Try.ntmps11
  go_wp2_with fail
  obtain ⟨W, hW, hbox0, hbox1, hb, hz⟩ := two_boxes w #[.int .i64 0, .slice none 0 0] #[.int .i64 n, .slice none 0 0] 24
  rw [hW]
  clear hW
  go_loopw [4] (fun i wr => ∃ (k : Nat) (v : Value), k ≤ n ∧ i = .int .i64 k ∧ Hid (Box wr w.heap.size #[.int .i64 0, .slice none 0 0] 24) ∧ Hid (Box wr (w.heap.size + 1) #[.int .i64 n, v] 24) ∧ Hid (wr.ownsRow (w.heap.size + 2) 3 1 v (exc l k).length (ints (exc l k))) ∧ Hid (Below w.heap.size w wr) ∧ w.heap.size + 2 ≤ wr.heap.size) (fun i _ => n - (intOf i).toNat)
  case atStart => exact ⟨0, _, Nat.zero_le _, rfl, hide hbox0, hide hbox1, hide (World.ownsRow_nil _ _ _ _), hide hb, by omega⟩
  case round =>
    obtain ⟨k, v, hk, rfl, H0, H1, HO, HB, hz2⟩ := hrel
    have c0 := H1.out.cell 0 (.int .i64 n) rfl
    have c1 := H1.out.cell 1 v rfl
    have f1 := H1.out.frozen 1
    by_cases hkn : k < n
    · obtain ⟨x, hx⟩ : ∃ x, l[k]? = some x := ⟨_, List.getElem?_eq_getElem (by rw [HL.out]; exact hkn)⟩
      obtain ⟨bA, oA, rfl, hbA, hcA⟩ := hr.at_ (ints_at hx)
      have hc2 : wr.cell? ⟨bA, oA + k, none⟩ = some (.int .i64 x) := by rw [HB.out.cell (p := ⟨bA, oA + k, none⟩) hbA]; exact hcA
      have HX := hide hx
      clear hx hcA
      by_cases h2 : x = 2
      · subst h2
        have HE := hide (exc_same HX.out)
        go_wp2_with fail
        exact ⟨⟨k + 1, v, by omega, by go_num, H0, H1, hide (by rw [HE.out]; exact HO.out), HB, hz2⟩, by simp [intOf]; omega⟩
      · have HE := hide (exc_more HX.out h2)
        have hel := exc_len l k
        obtain ⟨m, hm⟩ : ∃ m, (exc l k).length = m := ⟨_, rfl⟩
        have HM := hide hm
        have HO2 := hide (show wr.ownsRow (w.heap.size + 2) 3 1 v m (ints (exc l k)) by rw [← hm]; exact HO.out)
        rw [hm] at hel
        clear hm HO
        obtain ⟨AV, cV, rfl, -, -⟩ := own_form HO2.out
        go_wp2_with (at_builtin; refine wpList_append_row _ rfl (.tmp 20) (.tmp 23) 22 rfl (w.heap.size + 2) 3 infoI Try.underlying22 rfl (by omega) _ m _ rfl (HO2.out.alloc _) _ (some ⟨wr.heap.size, 0, none⟩) 1 1 [_] rfl rfl (row_one _ _ _ _) (one_int _ _) (by simp only [maxLen]; omega) (by omega) (by simp; omega) ?_; intro v' w' hown' hg hat; obtain ⟨A', c', rfl, -, -⟩ := own_form hown'; have hge : ∀ g, (Value.slice AV m cV).ownBlock = some g → w.heap.size + 2 ≤ g := (fun g h => own_ge HO2.out h (Nat.le_refl _)); have b0 := (H0.out.alloc _).grown hg (fun g h e => by have := hge g h; omega); have b1 := (H1.out.alloc _).grown hg (fun g h e => by have := hge g h; omega); have e1 := b1.cell 1 (.slice AV m cV) rfl; have g1 := b1.frozen 1; have B0 := hide b0; have B1 := hide b1; have HB' := hide ((HB.out.alloc (by omega) _).grown hg (by simp; omega) (fun g h => by have := hge g h; omega)); have HO' := hide hown'; have hz' := hg.size; clear b0 b1 hown' hg hat)
        refine ⟨⟨k + 1, .slice A' (m + 1) c', by omega, by go_num, hide (B0.out.other (by simp) _), hide (B1.out.set 1 _), hide ?_, hide (HB'.out.setCell (by simp) _), by simp at hz' ⊢; omega⟩, by simp [intOf]; omega⟩
        have h3 := own_other HO'.out (a := ⟨w.heap.size + 1, 1, none⟩) (by simp) (.slice A' (m + 1) c')
        rw [HE.out, List.length_append, HM.out, ← ints_append]
        exact h3
    · obtain rfl : k = n := by omega
      obtain ⟨AV, cV, rfl, -, -⟩ := own_form HO.out
      have r0 := H0.out.cell 0 (.int .i64 0) rfl
      have r1 := H0.out.cell 1 (.slice none 0 0) rfl
      have q0 := H0.out.frozen 0
      have q1 := H0.out.frozen 1
      go_wp2_with fail
      refine bodyPost_ret (box_results rfl _ ((H0.out.set 0 _).set 1 _) rfl Try.underlying24 rfl rfl) rfl ?_
      exact ⟨_, rfl, own_more (own_other (own_other HO.out (by simp) _) (by simp) _) (by omega), (HB.out.setCell (by simp) _).setCell (by simp) _⟩
#print axioms current_any
end Go.Proofs.Ytnihladjafnjpaa
