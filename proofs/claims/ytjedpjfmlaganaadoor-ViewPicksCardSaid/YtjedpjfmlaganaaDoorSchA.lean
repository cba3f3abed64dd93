/-
  The document's answer on columns, walked: a name.
-/
import Derived.Test.YtjedpjfmlaganaaDoorSchMath
import Derived.Test.YtjedpjfmlaganaaDoorMayC
namespace Go.Proofs.YtjedpjfmlaganaaDoor
set_option maxRecDepth 100000
open Go.RowKit
set_option linter.unusedVariables false

set_option maxRecDepth 100000 in
set_option maxHeartbeats 1000000 in
theorem refname_any (w : World) (s : ByteArray) (hs : s.size ≤ 9223372036854775807) : Calls Tryd.prog 12 #[.string s] w fun e w' => e = .returned (.bool (va.nameV s)) ∧ Below w.heap.size w w' := by
  obtain ⟨ans, hans⟩ : ∃ ans, va.lettersB s.data.toList = ans := ⟨_, rfl⟩
  have HA := hide (show va.lettersB (s.data.toList.drop 0) = ans by rw [List.drop_zero]; exact hans)
  have HN := hide (show va.nameV s = (ans && (!va.emp s && decide (s.size ≤ 20))) by unfold va.nameV; rw [hans])
  rw [HN.out]
  clear hans
  go_enter Tryd.func12, Tryd.ntmps12
  go_wp2_with fail
  go_loopw [3] (fun i wr => ∃ j : Nat, i = .int .i64 j ∧ j ≤ s.size ∧ Hid (va.lettersB (s.data.toList.drop j) = ans) ∧ Hid (Le w wr)) (fun i _ => s.size - (intOf i).toNat)
  case atStart => exact ⟨0, rfl, Nat.zero_le _, HA, hide (Below.refl _ _)⟩
  case round =>
    obtain ⟨j, rfl, hj, HV, HB⟩ := hrel
    by_cases hp : j < s.size
    · have hc : s.data.toList[j]? = some s[j] := by
        rw [List.getElem?_eq_getElem (by rw [← Lib.size_eq]; exact hp)]
        rfl
      have HS := hide (show (va.letterB s[j].toNat && va.lettersB (s.data.toList.drop (j + 1))) = ans by rw [← va.letters_step hc]; exact HV.out)
      clear hc
      go_wp2_with fail
      all_goals
        first
        | (refine ⟨⟨j + 1, by go_num, by omega, hide ?_, HB⟩, by simp [intOf]; omega⟩
           have hl : va.letterB s[j].toNat = true := by
             clear HS HV
             simp only [va.letterB, Bool.or_eq_true, Bool.and_eq_true, decide_eq_true_eq]
             (try simp only [bne_eq_false_iff_eq] at *)
             omega
           have h := HS.out
           rw [hl, Bool.true_and] at h
           exact h)
        | (go_ret
           have hl : va.letterB s[j].toNat = false := by
             clear HS HV
             simp only [va.letterB, Bool.or_eq_false_iff, Bool.and_eq_false_iff, decide_eq_false_iff_not]
             (try simp only [bne_iff_ne, ne_eq] at *)
             omega
           have h := HS.out
           rw [hl, Bool.false_and] at h
           exact ⟨by rw [← h]; rfl, HB.out⟩)
    · obtain rfl : j = s.size := by omega
      have ha : ans = true := by
        rw [← HV.out, List.drop_eq_nil_of_le (by rw [← Lib.size_eq]; exact Nat.le_refl _)]
        rfl
      rw [ha]
      obtain ⟨e, he⟩ : ∃ e, va.emp s = e := ⟨_, rfl⟩
      cases e
      · have hne : (s.toList == ([] : List UInt8)) = false := by
          unfold va.emp at he
          cases h : s.toList with
          | nil => rw [h] at he; cases he
          | cons a l => rfl
        go_wp2_with fail
        all_goals
          go_ret
          exact ⟨by rw [he, ha]; simp; try omega, HB.out⟩
      · have hne : (s.toList == ([] : List UInt8)) = true := by
          unfold va.emp at he
          cases h : s.toList with
          | nil => rfl
          | cons a l => rw [h] at he; cases he
        go_wp2_with fail
        all_goals
          go_ret
          exact ⟨by rw [he]; simp, HB.out⟩
#print axioms refname_any
end Go.Proofs.YtjedpjfmlaganaaDoor
