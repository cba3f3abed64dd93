/-
  Values, walked: how they are compared, by the program and by the document.
-/
import Derived.Test.YtjedpjfmlaganaaDoorChecked
import Derived.Test.YtjedpjfmlaganaaDoorValMath
import Derived.Test.YtjedpjfmlaganaaDoorMem
import Derived.Test.YtjedpjfmlaganaaDoorRegion
import Derived.Test.YtjedpjfmlaganaaDoorBox
namespace Go.Proofs.YtjedpjfmlaganaaDoor
open Go.RowKit
set_option linter.unusedVariables false

theorem nanint_any (w : World) (a : Int) : Calls Tryd.prog 66 #[.int .i64 a] w fun e w' => e = .returned (.bool false) ∧ w = w' := by
  go_enter Tryd.func66, Tryd.ntmps66
  go_wp2_with fail
  go_ret
  exact ⟨by simp, rfl⟩
theorem nanstr_any (w : World) (a : ByteArray) : Calls Tryd.prog 67 #[.string a] w fun e w' => e = .returned (.bool false) ∧ w = w' := by
  go_enter Tryd.func67, Tryd.ntmps67
  go_wp2_with fail
  go_ret
  exact ⟨by simp, rfl⟩
theorem cmpint_any (w : World) (a b : Int) : Calls Tryd.prog 60 #[.int .i64 a, .int .i64 b] w fun e w' => e = .returned (.int .i64 (va.cmpI a b)) ∧ w = w' := by
  by_cases h1 : a < b
  · have HX := hide (show va.cmpI a b = -1 by simp [va.cmpI, h1])
    go_enter Tryd.func60, Tryd.ntmps60
    go_wp2_with (go_at_call 66; refine (nanint_any _ _).mono ?_; rintro e w' ⟨rfl, rfl⟩)
    go_ret
    exact ⟨ret_int HX.out.symm, rfl⟩
  · by_cases h2 : b < a
    · have HX := hide (show va.cmpI a b = 1 by simp [va.cmpI, h1, h2])
      go_enter Tryd.func60, Tryd.ntmps60
      go_wp2_with (go_at_call 66; refine (nanint_any _ _).mono ?_; rintro e w' ⟨rfl, rfl⟩)
      go_ret
      exact ⟨ret_int HX.out.symm, rfl⟩
    · have HX := hide (show va.cmpI a b = 0 by simp [va.cmpI, h1, h2])
      go_enter Tryd.func60, Tryd.ntmps60
      go_wp2_with (go_at_call 66; refine (nanint_any _ _).mono ?_; rintro e w' ⟨rfl, rfl⟩)
      go_ret
      exact ⟨ret_int HX.out.symm, rfl⟩
theorem cmpstr_any (w : World) (a b : ByteArray) : Calls Tryd.prog 61 #[.string a, .string b] w fun e w' => e = .returned (.int .i64 (va.cmpS a b)) ∧ w = w' := by
  cases h1 : va.ltS a b
  · cases h2 : va.eqS a b
    · have HX := hide (show va.cmpS a b = 1 by simp [va.cmpS, h1, h2])
      unfold va.ltS at h1
      unfold va.eqS at h2
      go_enter Tryd.func61, Tryd.ntmps61
      go_wp2_with (go_at_call 67; refine (nanstr_any _ _).mono ?_; rintro e w' ⟨rfl, rfl⟩)
      go_ret
      exact ⟨ret_int HX.out.symm, rfl⟩
    · have HX := hide (show va.cmpS a b = 0 by simp [va.cmpS, h1, h2])
      unfold va.ltS at h1
      unfold va.eqS at h2
      go_enter Tryd.func61, Tryd.ntmps61
      go_wp2_with (go_at_call 67; refine (nanstr_any _ _).mono ?_; rintro e w' ⟨rfl, rfl⟩)
      go_ret
      exact ⟨ret_int HX.out.symm, rfl⟩
  · have HX := hide (show va.cmpS a b = -1 by simp [va.cmpS, h1])
    unfold va.ltS at h1
    go_enter Tryd.func61, Tryd.ntmps61
    go_wp2_with (go_at_call 67; refine (nanstr_any _ _).mono ?_; rintro e w' ⟨rfl, rfl⟩)
    go_ret
    exact ⟨ret_int HX.out.symm, rfl⟩
theorem or_any (w : World) (g : Nat) (a b : Int) (h0 : w.cell? ⟨g, 0, none⟩ = some (.int .i64 a)) (h1 : w.cell? ⟨g, 1, none⟩ = some (.int .i64 b)) :
    Calls Tryd.prog 59 #[.slice (some ⟨g, 0, none⟩) 2 2] w fun e w' => e = .returned (.int .i64 (va.orI a b)) ∧ w = w' := by
  go_enter Tryd.func59, Tryd.ntmps59
  go_wp2_with fail
  go_loop [8] (fun i => ∃ k : Nat, k ≤ 2 ∧ i = .int .i64 k ∧ (1 ≤ k → a = 0) ∧ (k = 2 → b = 0)) (fun i => 2 - (intOf i).toNat)
  case atStart => exact ⟨0, by omega, rfl, fun h => by omega, fun h => by omega⟩
  case round =>
    obtain ⟨k, hk, rfl, ha, hb⟩ := hrel
    rcases Nat.lt_or_ge k 1 with hk0 | hk1
    · obtain rfl : k = 0 := by omega
      by_cases hz : a = 0
      · subst hz
        clear ha hb
        go_wp2_with fail
        exact ⟨⟨1, by omega, rfl, fun _ => by simp, fun h => by omega⟩, by simp [intOf]⟩
      · have HX := hide (show va.orI a b = a by simp [va.orI, hz])
        have hzb : (a != 0) = true := by simpa using hz
        clear ha hb
        go_wp2_with fail
        go_ret
        exact ⟨ret_int HX.out.symm, rfl⟩
    · have ha0 := ha hk1
      subst ha0
      rcases Nat.lt_or_ge k 2 with hk2 | hk2
      · obtain rfl : k = 1 := by omega
        by_cases hz : b = 0
        · subst hz
          clear ha hb
          go_wp2_with fail
          exact ⟨⟨2, by omega, rfl, fun _ => by simp, fun _ => by simp⟩, by simp [intOf]⟩
        · have HX := hide (show va.orI 0 b = b by simp [va.orI])
          have hzb : (b != 0) = true := by simpa using hz
          clear ha hb
          go_wp2_with fail
          go_ret
          exact ⟨ret_int HX.out.symm, rfl⟩
      · obtain rfl : k = 2 := by omega
        have hb0 := hb rfl
        subst hb0
        clear ha hb
        go_wp2_with fail
        go_ret
        exact ⟨rfl, rfl⟩
#print axioms or_any
end Go.Proofs.YtjedpjfmlaganaaDoor
