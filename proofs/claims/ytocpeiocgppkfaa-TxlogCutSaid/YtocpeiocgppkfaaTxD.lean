/-
  What becomes of write-ids, walked: what records come to, by the program and by the document.
-/
import Derived.Test.YtocpeiocgppkfaaTxC
namespace Go.Proofs.Ytocpeiocgppkfaa
open Go.RowKit
set_option linter.unusedVariables false

/-- Records, as cells. -/
def rcs (l : List (Int × Int)) : List Value := l.flatMap fun r => [.int .i64 r.1, .int .i64 r.2]
theorem rcs_cons (r : Int × Int) (l : List (Int × Int)) : rcs (r :: l) = .int .i64 r.1 :: .int .i64 r.2 :: rcs l := rfl
theorem rcs_at : ∀ {l : List (Int × Int)} {k : Nat} {op id : Int}, l[k]? = some (op, id) → (rcs l)[k * 2]? = some (.int .i64 op) ∧ (rcs l)[k * 2 + 1]? = some (.int .i64 id)
  | [], k, op, id, h => by simp at h
  | r :: l, 0, op, id, h => by simp at h; subst h; exact ⟨rfl, rfl⟩
  | r :: l, k + 1, op, id, h => by
    rw [rcs_cons, show (k + 1) * 2 = k * 2 + 1 + 1 by omega]
    simp only [List.getElem?_cons_succ] at h ⊢
    exact rcs_at h
theorem rcs_len (l : List (Int × Int)) : (rcs l).length = l.length * 2 := by
  induction l with
  | nil => rfl
  | cons r l ih => rw [rcs_cons]; simp [ih]; omega
theorem rcs_append (l m : List (Int × Int)) : rcs (l ++ m) = rcs l ++ rcs m := by simp [rcs]
theorem rcs_one {l : List (Int × Int)} : ∀ u ∈ rcs l, u.oneCell' = true := by
  intro u hu
  simp only [rcs, List.mem_flatMap] at hu
  obtain ⟨r, -, hu⟩ := hu
  simp at hu
  rcases hu with rfl | rfl <;> rfl
theorem rcs_take : ∀ (l : List (Int × Int)) (k : Nat), (rcs l).take (k * 2) = rcs (l.take k)
  | l, 0 => by simp [rcs]
  | [], k + 1 => by simp [rcs]
  | r :: l, k + 1 => by
    rw [rcs_cons, show (k + 1) * 2 = k * 2 + 1 + 1 by omega]
    simp only [List.take_succ_cons, rcs_cons, rcs_take l k]
theorem res_pair_none {l : List (Int × Int)} (h : tx.run l = none) : (tx.res l, tx.err l) = ([], 2) := by rw [(tx.res_none h).1, (tx.res_none h).2]
theorem res_pair_some {l : List (Int × Int)} {s : List Int} (h : tx.run l = some s) : (tx.res l, tx.err l) = (s, 0) := by rw [(tx.res_some h).1, (tx.res_some h).2]

set_option maxHeartbeats 4000000 in
theorem states_any (w : World) (A : Option Addr) (n c : Nat) (l : List (Int × Int)) (hl : l.length = n) (hn : n ≤ 1000) (hr : Row w w.heap.size A (rcs l)) :
    Calls Try.prog 9 #[.slice A n c] w (Gives2 w.heap.size 3 1 (tx.res l).length (ints (tx.res l)) (.int .i64 (tx.err l)) w) := by
  have HL := hide hl
  clear hl
  go_enter Try.func9, Try.ntmps9
  go_wp2_with fail
  go_loopw [4, 10] (fun v i wr => ∃ (k m c3 : Nat) (A3 : Option Addr) (s : List Int), k ≤ n ∧ i = .int .i64 k ∧ v = .slice A3 m c3 ∧ Hid (tx.run (l.take k) = some s) ∧ Hid (s.length = m) ∧ m ≤ k ∧ Hid (wr.ownsRow w.heap.size 3 1 (.slice A3 m c3) m (ints s)) ∧ Hid (Below w.heap.size w wr)) (fun _ i _ => n - (intOf i).toNat)
  case atStart => exact ⟨0, 0, 0, none, [], Nat.zero_le _, rfl, rfl, hide (by simp [tx.run]), hide rfl, Nat.le_refl _, hide (World.ownsRow_nil _ _ _ _), hide (Below.refl _ _)⟩
  case round =>
    obtain ⟨k, m, c3, A3, s, hk, rfl, rfl, HP, HM, hm, HO, HB⟩ := hrel
    have hz := HB.out.size
    by_cases hkn : k < n
    · obtain ⟨⟨op, id⟩, hx⟩ : ∃ x, l[k]? = some x := ⟨_, List.getElem?_eq_getElem (by rw [HL.out]; exact hkn)⟩
      obtain ⟨bA, oA, rfl, hbA, hc0⟩ := hr.at_ (rcs_at hx).1
      obtain ⟨bB, oB, e2, hbB, hc1⟩ := hr.at_ (rcs_at hx).2
      injection e2 with e2
      injection e2 with e2 e3 e4
      subst e2
      subst e3
      have hd0 : wr.cell? ⟨bA, oA + k * 2, none⟩ = some (.int .i64 op) := (HB.out.cell (p := ⟨bA, oA + k * 2, none⟩) hbA).trans hc0
      have hd1 : wr.cell? ⟨bA, oA + k * 2 + 1, none⟩ = some (.int .i64 id) := (HB.out.cell (p := ⟨bA, oA + k * 2 + 1, none⟩) hbA).trans hc1
      have HX := hide hx
      clear hx hc0 hc1 e4
      go_wp2_with fail
      refine (next_any (wr.alloc (.cells #[.int .i64 op, .int .i64 id] 35)) A3 m c3 s op id HM.out (by omega) (((Row.of_own HO.out).alloc (Nat.le_refl _) _).more (by simp))).mono ?_
      rintro e w2 ⟨v2, rfl, hown2, hb2⟩
      have hlen := tx.next_len s op id
      rw [HM.out] at hlen
      obtain ⟨m2, hm2⟩ : ∃ m2, (tx.next s op id).1.length = m2 := ⟨_, rfl⟩
      rw [hm2] at hown2 hlen
      obtain ⟨A4, c4, rfl, -, -⟩ := own_form hown2
      have HO2 := hide (show w2.ownsRow w.heap.size 3 1 (.slice A4 m2 c4) m2 (ints (tx.next s op id).1) from own_more hown2 (by simp; omega))
      have HB2 := hide (show Below w.heap.size w w2 from (HB.out.alloc hz _).trans (hb2.mono (by simp; omega)))
      have HM2 := hide hm2
      clear hown2 hb2 hm2 hd0 hd1
      by_cases he : (tx.next s op id).2 = 0
      · have HN := hide (tx.run_step_some HX.out HP.out he)
        rw [he]
        clear he
        go_wp2_with fail
        exact ⟨⟨k + 1, m2, c4, A4, _, by omega, by go_num, rfl, HN, HM2, by omega, HO2, HB2⟩, by simp [intOf]; omega⟩
      · have HN := hide (res_pair_none (tx.run_step_none HX.out HP.out he))
        obtain ⟨E, hE⟩ : ∃ E, (tx.next s op id).2 = E := ⟨_, rfl⟩
        rw [hE] at he ⊢
        have heb : (E != 0) = true := by simpa using he
        clear he hE
        go_wp2_with fail
        go_ret2
        exact gives_none HN.out HB2.out
    · obtain rfl : k = n := by omega
      have HN := hide (res_pair_some (l := l) (s := s) (by have := HP.out; rwa [List.take_of_length_le (by rw [HL.out]; exact Nat.le_refl _)] at this))
      go_wp2_with fail
      go_ret2
      exact gives_some HN.out HM.out HO.out HB.out
#print axioms states_any
set_option maxHeartbeats 4000000 in
theorem refstates_any (w : World) (A : Option Addr) (n c : Nat) (l : List (Int × Int)) (hl : l.length = n) (hn : n ≤ 1000) (hr : Row w w.heap.size A (rcs l)) :
    Calls Try.prog 11 #[.slice A n c] w (Gives2 w.heap.size 3 1 (tx.res l).length (ints (tx.res l)) (.int .i64 (tx.err l)) w) := by
  have HL := hide hl
  clear hl
  go_enter Try.func11, Try.ntmps11
  go_wp2_with fail
  obtain ⟨W0, hW0⟩ : ∃ W0, w.alloc (.cells #[] 3) = W0 := ⟨_, rfl⟩
  rw [hW0]
  have hs1 : W0.ownsRow w.heap.size 3 1 (.slice (some ⟨w.heap.size, 0, none⟩) 0 0) 0 (ints []) := by rw [← hW0]; exact World.ownsRow_lit _ #[] 0 (Nat.le_refl _) (by simp) rfl
  have hs2 : Below w.heap.size w W0 := by rw [← hW0]; exact (Below.refl _ _).alloc (Nat.le_refl _) _
  clear hW0
  go_loopw [4, 5] (fun v i wr => ∃ (k m c3 : Nat) (A3 : Option Addr) (s : List Int), k ≤ n ∧ i = .int .i64 k ∧ v = .slice A3 m c3 ∧ Hid (tx.run (l.take k) = some s) ∧ Hid (s.length = m) ∧ m ≤ k ∧ Hid (wr.ownsRow w.heap.size 3 1 (.slice A3 m c3) m (ints s)) ∧ Hid (Below w.heap.size w wr)) (fun _ i _ => n - (intOf i).toNat)
  case atStart => exact ⟨0, 0, 0, _, [], Nat.zero_le _, rfl, rfl, hide (by simp [tx.run]), hide rfl, Nat.le_refl _, hide hs1, hide hs2⟩
  case round =>
    obtain ⟨k, m, c3, A3, s, hk, rfl, rfl, HP, HM, hm, HO, HB⟩ := hrel
    have hz := HB.out.size
    by_cases hkn : k < n
    · obtain ⟨⟨op, id⟩, hx⟩ : ∃ x, l[k]? = some x := ⟨_, List.getElem?_eq_getElem (by rw [HL.out]; exact hkn)⟩
      obtain ⟨bA, oA, rfl, hbA, hc0⟩ := hr.at_ (rcs_at hx).1
      obtain ⟨bB, oB, e2, hbB, hc1⟩ := hr.at_ (rcs_at hx).2
      injection e2 with e2
      injection e2 with e2 e3 e4
      subst e2
      subst e3
      have hd0 : wr.cell? ⟨bA, oA + k * 2, none⟩ = some (.int .i64 op) := (HB.out.cell (p := ⟨bA, oA + k * 2, none⟩) hbA).trans hc0
      have hd1 : wr.cell? ⟨bA, oA + k * 2 + 1, none⟩ = some (.int .i64 id) := (HB.out.cell (p := ⟨bA, oA + k * 2 + 1, none⟩) hbA).trans hc1
      have HX := hide hx
      clear hx hc0 hc1 e4
      go_wp2_with fail
      refine (refnext_any wr A3 m c3 s op id HM.out (by omega) (Row.of_own HO.out)).mono ?_
      rintro e w2 ⟨v2, rfl, hown2, hb2⟩
      have hlen := tx.next_len s op id
      rw [HM.out] at hlen
      obtain ⟨m2, hm2⟩ : ∃ m2, (tx.next s op id).1.length = m2 := ⟨_, rfl⟩
      rw [hm2] at hown2 hlen
      obtain ⟨A4, c4, rfl, -, -⟩ := own_form hown2
      have HO2 := hide (show w2.ownsRow w.heap.size 3 1 (.slice A4 m2 c4) m2 (ints (tx.next s op id).1) from own_more hown2 hz)
      have HB2 := hide (show Below w.heap.size w w2 from HB.out.trans (hb2.mono hz))
      have HM2 := hide hm2
      clear hown2 hb2 hm2 hd0 hd1
      by_cases he : (tx.next s op id).2 = 0
      · have HN := hide (tx.run_step_some HX.out HP.out he)
        rw [he]
        clear he
        go_wp2_with fail
        exact ⟨⟨k + 1, m2, c4, A4, _, by omega, by go_num, rfl, HN, HM2, by omega, HO2, HB2⟩, by simp [intOf]; omega⟩
      · have HN := hide (res_pair_none (tx.run_step_none HX.out HP.out he))
        obtain ⟨E, hE⟩ : ∃ E, (tx.next s op id).2 = E := ⟨_, rfl⟩
        rw [hE] at he ⊢
        have heb : (E != 0) = true := by simpa using he
        clear he hE
        go_wp2_with fail
        go_ret2
        exact gives_none HN.out HB2.out
    · obtain rfl : k = n := by omega
      have HN := hide (res_pair_some (l := l) (s := s) (by have := HP.out; rwa [List.take_of_length_le (by rw [HL.out]; exact Nat.le_refl _)] at this))
      go_wp2_with fail
      go_ret2
      exact gives_some HN.out HM.out HO.out HB.out
#print axioms refstates_any
end Go.Proofs.Ytocpeiocgppkfaa
