/-
  The program's names of columns, walked.
-/
import Derived.Test.YtoembifjgmiamaaDoorSchB
import Derived.Lib.TrimAscii
import Derived.Lib.TrimUEq
namespace Go.Proofs.YtoembifjgmiamaaDoor
open Go.RowKit
set_option linter.unusedVariables false

def letterI (r : Int) : Bool := (decide (97 ≤ r) && decide (r ≤ 122)) || (decide (48 ≤ r) && decide (r ≤ 57)) || decide (r = 95)
theorem letterI_nat (c : Nat) : letterI (c : Int) = va.letterB c := by
  rw [Bool.eq_iff_iff]
  simp only [letterI, va.letterB, Bool.or_eq_true, Bool.and_eq_true, decide_eq_true_eq]
  omega
theorem decodeN_high (n b0 b1 b2 b3 : Nat) (h : 128 ≤ b0) : 128 ≤ (Lib.decodeN n b0 b1 b2 b3).1 := by
  unfold Lib.decodeN
  rw [if_neg (by omega)]
  repeat' split
  all_goals first | (simp only; omega) | omega
theorem letters_rune {l : List UInt8} (hne : l ≠ []) : va.lettersB l = (letterI ((Lib.decodeL l).1 : Nat) && va.lettersB (l.drop (Lib.decodeL l).2)) := by
  rw [letterI_nat]
  cases l with
  | nil => exact absurd rfl hne
  | cons b t =>
    by_cases hb : b.toNat < 128
    · rw [Lib.decodeL_ascii b t hb]
      rfl
    · have h1 : 128 ≤ (Lib.decodeL (b :: t)).1 := by
        rw [Lib.decodeL_N]
        exact decodeN_high _ _ _ _ _ (by simpa using hb)
      have e1 : va.letterB (Lib.decodeL (b :: t)).1 = false := by
        simp only [va.letterB, Bool.or_eq_false_iff, Bool.and_eq_false_iff, decide_eq_false_iff_not]
        omega
      have e2 : va.letterB b.toNat = false := by
        simp only [va.letterB, Bool.or_eq_false_iff, Bool.and_eq_false_iff, decide_eq_false_iff_not]
        omega
      rw [e1]
      show (va.letterB b.toNat && va.lettersB t) = _
      rw [e2]
      rfl

set_option maxRecDepth 100000 in
theorem letter_any (w : World) (r : Int) : Calls Tryd.prog 30 #[.int .i32 r] w fun e w' => e = .returned (.bool (letterI r)) ∧ w = w' := by
  go_enter Tryd.func30, Tryd.ntmps30
  obtain ⟨d1, h1⟩ : ∃ d, decide (97 ≤ r) = d := ⟨_, rfl⟩
  obtain ⟨d2, h2⟩ : ∃ d, decide (r ≤ 122) = d := ⟨_, rfl⟩
  obtain ⟨d3, h3⟩ : ∃ d, decide (48 ≤ r) = d := ⟨_, rfl⟩
  obtain ⟨d4, h4⟩ : ∃ d, decide (r ≤ 57) = d := ⟨_, rfl⟩
  obtain ⟨d5, h5⟩ : ∃ d, decide (r = 95) = d := ⟨_, rfl⟩
  have h6 : (r == 95) = d5 := by rw [← h5]; rfl
  have HR := hide (show letterI r = ((d1 && d2) || (d3 && d4) || d5) by unfold letterI; rw [h1, h2, h3, h4, h5])
  cases d1 <;> cases d2 <;> cases d3 <;> cases d4 <;> cases d5
  all_goals
    go_wp2_with fail
    go_ret
    exact ⟨by rw [HR.out]; rfl, rfl⟩
#print axioms letter_any

set_option maxRecDepth 100000 in
set_option maxHeartbeats 1000000 in
theorem named_any (w : World) (s : ByteArray) (hs : s.size ≤ 9223372036854775807) : Calls Tryd.prog 24 #[.string s] w fun e w' => e = .returned (.bool (va.nameV s)) ∧ Below w.heap.size w w' := by
  obtain ⟨ans, hans⟩ : ∃ ans, va.lettersB s.data.toList = ans := ⟨_, rfl⟩
  have HN := hide (show va.nameV s = (ans && (!va.emp s && decide (s.size ≤ 20))) by unfold va.nameV; rw [hans])
  rw [HN.out]
  have HA := hide (show va.lettersB (s.data.toList.drop 0) = ans by rw [List.drop_zero]; exact hans)
  clear hans
  go_enter Tryd.func24, Tryd.ntmps24
  go_wp2_with fail
  go_loopw [4] (fun _ wr => ∃ pos : Nat, Hid (wr.heap[w.heap.size]? = some (.stringIter s pos)) ∧ Hid (va.lettersB (s.data.toList.drop pos) = ans) ∧ Hid (Le w wr)) (fun _ wr => s.size - wr.iterPos w.heap.size)
  case atStart => exact ⟨0, hide (World.iter_heap w s 0), HA, hide (iter_le2 w s 0)⟩
  case round =>
    obtain ⟨pos, HI, HV, HB⟩ := hrel
    by_cases hp : pos < s.size
    · have hne : s.data.toList.drop pos ≠ [] := by
        intro h
        have := congrArg List.length h
        rw [List.length_drop, ← Lib.size_eq] at this
        simp at this
        omega
      have hnx : ∀ ty, (Instr.next (.pointer (some ⟨w.heap.size, 0, none⟩)) true ty).run Tryd.prog wr = _ := fun ty => Go.Lib.run_next_any_at wr w.heap.size s pos ty HI.out hp
      have hD := Lib.decodeL_drop s pos
      have hK1 := Lib.decodeL_width (s.data.toList.drop pos)
      have hst := letters_rune hne
      rw [HV.out, List.drop_drop] at hst
      rw [hD] at hK1 hst
      obtain ⟨R, hR⟩ : ∃ R, (Utf8.decode s pos).1 = R := ⟨_, rfl⟩
      obtain ⟨K, hK⟩ : ∃ K, (Utf8.decode s pos).2 = K := ⟨_, rfl⟩
      rw [hR, hK] at hnx hst
      rw [hK] at hK1
      have HST := hide hst
      obtain ⟨X, hX⟩ : ∃ X, wr.iterAt w.heap.size s (pos + K) = X := ⟨_, rfl⟩
      have HXI := hide (show X.heap[w.heap.size]? = some (.stringIter s (pos + K)) by rw [← hX]; exact Go.Lib.iterAt_heap _ _ _ _ _ HI.out)
      have HXB := hide (show Le w X by rw [← hX]; exact Go.Lib.below_iterAt HB.out (Nat.le_refl _) s (pos + K))
      have HP := hide (iterPos_of HI.out)
      rw [hX] at hnx
      clear hX hst hD hne hR hK
      go_wp2_with fail
      refine (letter_any X (R : Nat)).mono ?_
      rintro e w3 ⟨rfl, rfl⟩
      obtain ⟨q, hq⟩ : ∃ q, letterI ((R : Nat) : Int) = q := ⟨_, rfl⟩
      rw [hq] at HST ⊢
      clear hq
      cases q
      · have HF := hide (show ans = false from HST.out)
        go_wp2_with fail
        go_ret
        rw [HF.out]
        exact ⟨rfl, HXB.out⟩
      · have HN := hide (show va.lettersB (s.data.toList.drop (pos + K)) = ans from HST.out.symm)
        go_wp2_with fail
        exact ⟨⟨pos + K, HXI, HN, HXB⟩, by rw [iterPos_of HXI.out, HP.out]; omega⟩
    · have hnx : ∀ ty, (Instr.next (.pointer (some ⟨w.heap.size, 0, none⟩)) true ty).run Tryd.prog wr = _ := fun ty => Go.Lib.run_next_end_at wr w.heap.size s pos ty HI.out hp
      have ha : ans = true := by
        rw [← HV.out, List.drop_eq_nil_of_le (by rw [← Lib.size_eq]; omega)]
        rfl
      obtain ⟨e, he⟩ : ∃ e, va.emp s = e := ⟨_, rfl⟩
      cases e
      · have hne : (s.toList == ([] : List UInt8)) = false := by
          unfold va.emp at he
          cases h : s.toList with
          | nil => rw [h] at he; cases he
          | cons a l => rfl
        go_wp2_with fail
        all_goals
          go_ret
          exact ⟨by rw [he, ha]; simp; try omega, HB.out⟩
      · have hne : (s.toList == ([] : List UInt8)) = true := by
          unfold va.emp at he
          cases h : s.toList with
          | nil => rfl
          | cons a l => rw [h] at he; cases he
        go_wp2_with fail
        all_goals
          go_ret
          exact ⟨by rw [he, ha]; simp; try omega, HB.out⟩
#print axioms named_any
end Go.Proofs.YtoembifjgmiamaaDoor
