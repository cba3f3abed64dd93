/-
  What becomes of write-ids, walked: one record more, by the program and by the document.
-/
import Derived.Test.YtocpeiocgppkfaaTxA
namespace Go.Proofs.Ytocpeiocgppkfaa
open Go.RowKit
set_option linter.unusedVariables false

theorem infoI : (Try.prog.info? 3).map (fun i => (i.zero, i.size, i.bytes)) = some (some (.int .i64 0), 1, 8) := by kernel_rfl
theorem ints_set (l : List Int) (k : Nat) (x : Int) : (ints l).set k (.int .i64 x) = ints (l.set k x) := by simp [ints, List.map_set]
/-- Nothing, and an error's number. -/
theorem gives_none {w w' : World} {E : TypeId} {r : List Int × Int} {x : Int} (h : r = ([], x)) (hb : Below w.heap.size w w') : Gives2 w.heap.size E 1 r.1.length (ints r.1) (.int .i64 r.2) w (.returned (.tuple #[.slice none 0 0, .int .i64 x])) w' := by
  subst h
  exact ⟨_, rfl, World.ownsRow_nil _ _ _ _, hb⟩
theorem gives_some {w w' : World} {E : TypeId} {r : List Int × Int} {l : List Int} {n : Nat} {v : Value} (h : r = (l, 0)) (hn : l.length = n) (ho : w'.ownsRow w.heap.size E 1 v n (ints l)) (hb : Below w.heap.size w w') : Gives2 w.heap.size E 1 r.1.length (ints r.1) (.int .i64 r.2) w (.returned (.tuple #[v, .int .i64 0])) w' := by
  subst h
  subst hn
  exact ⟨_, rfl, ho, hb⟩

set_option maxHeartbeats 4000000 in
theorem next_any (w : World) (A : Option Addr) (n c : Nat) (l : List Int) (op id : Int) (hl : l.length = n) (hn : n ≤ 1000000) (hr : Row w w.heap.size A (ints l)) :
    Calls Try.prog 12 #[.slice A n c, .agg #[.int .i64 op, .int .i64 id]] w (Gives2 w.heap.size 3 1 (tx.next l op id).1.length (ints (tx.next l op id).1) (.int .i64 (tx.next l op id).2) w) := by
  have HL := hide hl
  clear hl
  obtain ⟨W, hW⟩ : ∃ W, w.alloc (.cells #[.int .i64 op, .int .i64 id] 35) = W := ⟨_, rfl⟩
  have bx : Box W w.heap.size #[.int .i64 op, .int .i64 id] 35 := by rw [← hW]; exact box_new _ _ _
  have hLW : Le w W := by rw [← hW]; exact (Below.refl _ _).alloc (Nat.le_refl _) _
  have HW := hide hW
  clear hW
  have HLW := hide hLW
  have zW := hLW.size
  have hrW := (hLW.row hr (Nat.le_refl _)).more hLW.size
  clear hLW
  go_enter Try.func12, Try.ntmps12
  go_wp2_with fail
  rw [HW.out]
  refine (cloneI_any W A n c (ints l) (by rw [ints_len, HL.out, Nat.mul_one]) ints_one (by omega) hrW).mono ?_
  rintro e w1 ⟨v1, rfl, hown1, hb1⟩
  have bx1 := bx.below hb1 bx.lt
  have c0 := bx1.cell 0 (.int .i64 op) rfl
  have c1 := bx1.cell 1 (.int .i64 id) rfl
  have HL1 := hide (show Le w w1 from HLW.out.trans hb1)
  have zb := hb1.size
  have hbxlt := bx.lt
  clear hb1 bx bx1 hrW
  obtain ⟨A1, cc1, rfl, hc1, hc1'⟩ := own_form hown1
  have HO1 := hide hown1
  clear hown1
  by_cases o1 : op = 1
  · subst o1
    by_cases hid : id = (n : Int) + 1
    · subst hid
      go_wp2_with fail
      refine (open_any w1 A n c l HL.out (by omega) ((HL1.out.row hr (Nat.le_refl _)).more HL1.out.size)).mono ?_
      rintro e w' ⟨rfl, rfl⟩
      obtain ⟨m, hm⟩ : ∃ m, tx.opens l = m := ⟨_, rfl⟩
      rw [hm]
      have HM := hide hm
      clear hm
      by_cases h8 : 8 ≤ m
      · have HX := hide (tx.next_begin_big (l := l) (id := (n : Int) + 1) (by rw [HL.out]) (by rw [HM.out]; exact h8))
        go_wp2_with fail
        go_ret2
        exact gives_none HX.out HL1.out
      · have HX := hide (tx.next_begin (l := l) (id := (n : Int) + 1) (by rw [HL.out]) (by rw [HM.out]; omega))
        go_wp2_with (at_builtin; refine wpList_append_row _ rfl (.tmp 24) (.tmp 25) 23 rfl W.heap.size 3 infoI Try.underlying23 rfl (by omega) _ n _ rfl (HO1.out.alloc _) _ (some ⟨w1.heap.size, 0, none⟩) 1 1 [_] rfl rfl (row_one _ _ _ _) (one_int _ _) (by simp only [maxLen]; omega) (by omega) (by simp; omega) ?_; intro v' w' hown' hg hat; have HO' := hide hown'; have HB' := hide ((HL1.out.alloc (by omega) _).grown hg (by simp; omega) (fun g h => by have := own_ge HO1.out h (Nat.le_refl _); omega)); clear hown' hg hat)
        go_ret2
        exact gives_some (n := n + 1) HX.out (by simp [HL.out]) (by rw [← ints_append]; exact own_more HO'.out zW) HB'.out
    · have HX := hide (tx.next_begin_bad (l := l) (id := id) (by rw [HL.out]; exact hid))
      go_wp2_with fail
      go_ret2
      exact gives_none HX.out HL1.out
  · by_cases o2 : op = 2
    · subst o2
      by_cases hlo : id < 1
      · have HX := hide (tx.next_end_bad (l := l) (op := 2) (id := id) (by omega) (by omega))
        go_wp2_with fail
        go_ret2
        exact gives_none HX.out HL1.out
      · by_cases hhi : (n : Int) < id
        · have HX := hide (tx.next_end_bad (l := l) (op := 2) (id := id) (by omega) (by rw [HL.out]; omega))
          go_wp2_with fail
          go_ret2
          exact gives_none HX.out HL1.out
        · obtain ⟨k, hk⟩ : ∃ k : Nat, id = (k : Int) + 1 := ⟨(id - 1).toNat, by omega⟩
          subst hk
          have hkn : k < n := by omega
          obtain ⟨x, hx⟩ : ∃ x, l[k]? = some x := ⟨_, List.getElem?_eq_getElem (by rw [HL.out]; exact hkn)⟩
          obtain ⟨g, cap, hv, hge, hlt⟩ := HO1.out.form (by omega)
          have hA : A1 = some ⟨g, 0, none⟩ := by injection hv
          subst hA
          have hcell : w1.cell? ⟨g, k, none⟩ = some (.int .i64 x) := by rw [HO1.out.cellAt k (by omega)]; exact ints_at hx
          have hfz := HO1.out.frozenAt k
          have hw : IntKind.i64.wrap ((k : Int) + 1 - 1) = (k : Int) := by rw [IntWalk.i64_in _ (by omega)]; omega
          have hne : g ≠ w.heap.size := by omega
          have HXX := hide hx
          clear hv hx
          by_cases hx1 : x = 1
          · subst hx1
            have HX := hide (tx.next_end (l := l) (op := 2) (by omega) rfl HXX.out)
            go_wp2_with fail
            go_ret2
            exact gives_some (n := n) HX.out (by simp [HL.out]) (by rw [← ints_set]; exact own_more (HO1.out.stored k (.int .i64 2)).1 zW) (HL1.out.setCell (p := ⟨g, k, none⟩) (by show w.heap.size ≤ g; omega) _)
          · have HX := hide (tx.next_end_bad (l := l) (op := 2) (id := (k : Int) + 1) (by omega) (fun h => hx1 (by have h2 := h.2.2; rw [show ((k : Int) + 1 - 1).toNat = k by omega, HXX.out] at h2; injection h2)))
            have hxb : (x != 1) = true := by simpa using hx1
            go_wp2_with fail
            go_ret2
            exact gives_none HX.out HL1.out
    · by_cases o3 : op = 3
      · subst o3
        by_cases hlo : id < 1
        · have HX := hide (tx.next_end_bad (l := l) (op := 3) (id := id) (by omega) (by omega))
          go_wp2_with fail
          go_ret2
          exact gives_none HX.out HL1.out
        · by_cases hhi : (n : Int) < id
          · have HX := hide (tx.next_end_bad (l := l) (op := 3) (id := id) (by omega) (by rw [HL.out]; omega))
            go_wp2_with fail
            go_ret2
            exact gives_none HX.out HL1.out
          · obtain ⟨k, hk⟩ : ∃ k : Nat, id = (k : Int) + 1 := ⟨(id - 1).toNat, by omega⟩
            subst hk
            have hkn : k < n := by omega
            obtain ⟨x, hx⟩ : ∃ x, l[k]? = some x := ⟨_, List.getElem?_eq_getElem (by rw [HL.out]; exact hkn)⟩
            obtain ⟨g, cap, hv, hge, hlt⟩ := HO1.out.form (by omega)
            have hA : A1 = some ⟨g, 0, none⟩ := by injection hv
            subst hA
            have hcell : w1.cell? ⟨g, k, none⟩ = some (.int .i64 x) := by rw [HO1.out.cellAt k (by omega)]; exact ints_at hx
            have hfz := HO1.out.frozenAt k
            have hw : IntKind.i64.wrap ((k : Int) + 1 - 1) = (k : Int) := by rw [IntWalk.i64_in _ (by omega)]; omega
            have hne : g ≠ w.heap.size := by omega
            have HXX := hide hx
            clear hv hx
            by_cases hx1 : x = 1
            · subst hx1
              have HX := hide (tx.next_end (l := l) (op := 3) (by omega) rfl HXX.out)
              go_wp2_with fail
              go_ret2
              have hfin := own_more ((HO1.out.stored k (.int .i64 2)).1.stored k (.int .i64 3)).1 zW
              rw [List.set_set, ints_set] at hfin
              exact gives_some (n := n) HX.out (by simp [HL.out]) hfin ((HL1.out.setCell (p := ⟨g, k, none⟩) (by show w.heap.size ≤ g; omega) _).setCell (p := ⟨g, k, none⟩) (by show w.heap.size ≤ g; omega) _)
            · have HX := hide (tx.next_end_bad (l := l) (op := 3) (id := (k : Int) + 1) (by omega) (fun h => hx1 (by have h2 := h.2.2; rw [show ((k : Int) + 1 - 1).toNat = k by omega, HXX.out] at h2; injection h2)))
              have hxb : (x != 1) = true := by simpa using hx1
              go_wp2_with fail
              go_ret2
              exact gives_none HX.out HL1.out
      · have HX := hide (tx.next_none (l := l) (op := op) (id := id) (by omega))
        go_wp2_with fail
        go_ret2
        exact gives_none HX.out HL1.out
#print axioms next_any
end Go.Proofs.Ytocpeiocgppkfaa
