/-
  Records, walked: one laid down, by the document.
-/
import Derived.Test.YtocpeiocgppkfaaTyA
namespace Go.Proofs.Ytocpeiocgppkfaa
open Go.RowKit
set_option linter.unusedVariables false

theorem refrec_any (X : World) (k p i : Nat) (h1 : var.S64 p) (h2 : var.S64 i) (hk : X.heap.size = k + 1) (hr : Row X X.heap.size (some ⟨k, 0, none⟩) (fcs (recV p i))) :
    Calls Try.prog 30 #[.slice (some ⟨k, 0, none⟩) 2 2] X (Gives2 X.heap.size 5 1 (ty.body p i).length (u8s (ty.body p i)) (.int .i64 0) X) := by
  have h := refwput_any X (some ⟨k, 0, none⟩) 2 2 (recV p i) (ty.recF p i) rfl rfl (by omega) (fun f hf => (ty.recF_fits h1 h2 f hf).1) hr (recV_held p i)
  rw [ty.recF_put h1 h2] at h
  exact h

set_option maxRecDepth 100000 in
set_option maxHeartbeats 4000000 in
theorem reftxput_any (w : World) (op id : Int) :
    Calls Try.prog 19 #[.agg #[.int .i64 op, .int .i64 id]] w (Gives2 w.heap.size 5 1 (ty.put op id).1.length (u8s (ty.put op id).1) (.int .i64 (ty.put op id).2) w) := by
  obtain ⟨W, hW, hbx, hle, hzW⟩ := recbox w op id 25
  have b0 := hbx.cell 0 (.int .i64 op) rfl
  have b1 := hbx.cell 1 (.int .i64 id) rfl
  have HW := hide hW
  have HLE := hide hle
  clear hW hle hbx
  by_cases hm : ty.May op id
  · have hput := hide (ty.put_may hm)
    have hs := ty.may_s64 hm
    obtain ⟨p, rfl⟩ : ∃ p : Nat, op = (p : Int) := ⟨op.toNat, by unfold ty.May at hm; omega⟩
    obtain ⟨i, rfl⟩ : ∃ i : Nat, id = (i : Int) := ⟨id.toNat, by unfold ty.May at hm; omega⟩
    simp only [Int.toNat_natCast] at hs
    have HS1 := hide hs.1
    have HS2 := hide hs.2
    have hwp : IntKind.u64.wrap (p : Int) = (p : Int) := by rw [IntKind.wrap_u64]; have := HS1.out; unfold var.S64 at this; omega
    have hwi : IntKind.u64.wrap (i : Int) = (i : Int) := by rw [IntKind.wrap_u64]; have := HS2.out; unfold var.S64 at this; omega
    have e1 : decide ((p : Int) < 1) = false := decide_eq_false (by unfold ty.May at hm; omega)
    have e2 : decide ((3 : Int) < (p : Int)) = false := decide_eq_false (by unfold ty.May at hm; omega)
    have e3 : decide ((i : Int) < 1) = false := decide_eq_false (by unfold ty.May at hm; omega)
    have e4 : decide ((1073741824 : Int) < (i : Int)) = false := decide_eq_false (by unfold ty.May at hm; omega)
    clear hs hm
    go_enter Try.func19, Try.ntmps19
    go_wp2_with fail
    rw [HW.out]
    go_wp2_with fail
    obtain ⟨X, hX, hrX, hLX, hzX⟩ := recV_row W p i 67
    rw [hX]
    clear hX
    rw [hzW] at hrX hzX
    refine (refrec_any X _ p i HS1.out HS2.out hzX hrX).mono ?_
    rintro e w2 ⟨v2, rfl, hown2, hb2⟩
    have hbl := ty.body_len HS1.out HS2.out
    have HB8 := hide (ty.body8 HS1.out HS2.out)
    have HSL := hide (ty.sealed_len p i)
    have hlay : ty.lay p i = (ty.sealed p i).length :: ty.sealed p i := rfl
    have hsl : ty.sealed p i = crc.seal_ (ty.body p i) := rfl
    have HLAY := hide hlay
    have HSEAL := hide hsl
    clear hlay hsl
    obtain ⟨m, hm⟩ : ∃ m, (ty.body p i).length = m := ⟨_, rfl⟩
    rw [hm] at hown2 hbl HSL
    have HM := hide hm
    obtain ⟨A2, c2, rfl, -, -⟩ := own_form hown2
    have HR2 := hide (Row.of_own hown2)
    have HL2 := hide (show Le w w2 from HLE.out.trans (hLX.trans hb2))
    have hz2 := HL2.out.size
    clear hm hown2 hb2 hrX hLX b0 b1
    go_wp2_with fail
    refine (refseal_any w2 A2 m c2 (ty.body p i) HM.out (by omega) HB8.out HR2.out).mono ?_
    rintro e w3 ⟨v3, rfl, hown3, hb3⟩
    rw [← HSEAL.out] at hown3
    obtain ⟨q, hq⟩ : ∃ q, m + 4 = q := ⟨_, rfl⟩
    rw [hq] at hown3 HSL
    have hq45 : q ≤ 44 := by omega
    obtain ⟨A3, c3, rfl, -, -⟩ := own_form hown3
    have HR3 := hide (Row.of_own hown3)
    have HL3 := hide (show Le w w3 from HL2.out.trans hb3)
    have hz3 := HL3.out.size
    have hq8 : IntKind.u8.wrap (q : Int) = (q : Int) := by rw [IntKind.wrap_u8]; omega
    have hq88 : (q : Int) % 256 = (q : Int) := by omega
    have HU := hide (show (u8s (ty.sealed p i)).length = q * 1 by rw [u8s_len, HSL.out, Nat.mul_one])
    have HLIT := hide (show (w3.alloc (.cells #[.int .u8 (q : Int)] 5)).ownsRow w3.heap.size 5 1 (.slice (some ⟨w3.heap.size, 0, none⟩) 1 1) 1 [.int .u8 (q : Int)] from World.ownsRow_lit _ #[.int .u8 (q : Int)] 1 (Nat.le_refl _) (by decide) rfl)
    clear hown3 hb3 hq
    go_wp2_with (at_builtin; (refine wpList_append_row _ rfl (.tmp 43) (.tmp 44) 41 rfl w3.heap.size 5 info8 Try.underlying41 rfl (by omega) _ 1 [.int .u8 (q : Int)] rfl HLIT.out w3.heap.size A3 q c3 (u8s (ty.sealed p i)) rfl HU.out (HR3.out.alloc (Nat.le_refl _) _) u8s_one (by simp only [maxLen]; omega) (by omega) (by simp) ?_; intro v4 w4 hown4 hg4 hat4))
    go_ret2
    rw [hput.out]
    have hlen : 1 + q = (ty.lay p i).length := by rw [HLAY.out]; simp [HSL.out]; omega
    have hxs : [Value.int .u8 (q : Int)] ++ u8s (ty.sealed p i) = u8s (ty.lay p i) := by rw [HLAY.out, HSL.out]; rfl
    rw [hlen, hxs] at hown4
    exact ⟨_, rfl, own_more hown4 hz3, HL3.out.trans (((Below.refl _ _).alloc (Nat.le_refl _) _).grown hg4 (by simp) (fun g hg => own_ge HLIT.out hg (Nat.le_refl _)))⟩
  · have hput := hide (ty.put_not hm)
    have bad : ∀ w', Below w.heap.size w w' → Gives2 w.heap.size 5 1 (ty.put op id).1.length (u8s (ty.put op id).1) (.int .i64 (ty.put op id).2) w (.returned (.tuple #[.slice none 0 0, .int .i64 1])) w' := fun w' h => by
      rw [hput.out]
      exact ⟨_, rfl, World.ownsRow_nil _ _ _ _, h⟩
    have HBAD := hide bad
    clear bad hput
    by_cases h1 : op < 1
    · go_enter Try.func19, Try.ntmps19
      go_wp2_with fail
      rw [HW.out]
      go_wp2_with fail
      go_ret2
      exact HBAD.out _ HLE.out
    · by_cases h2 : 3 < op
      · go_enter Try.func19, Try.ntmps19
        have d2 : decide (3 < op) = true := decide_eq_true h2
        go_wp2_with fail
        rw [HW.out]
        go_wp2_with fail
        go_ret2
        exact HBAD.out _ HLE.out
      · have d2 : decide (3 < op) = false := decide_eq_false h2
        by_cases h3 : id < 1
        · have d3 : decide (id < 1) = true := decide_eq_true h3
          go_enter Try.func19, Try.ntmps19
          go_wp2_with fail
          rw [HW.out]
          go_wp2_with fail
          go_ret2
          exact HBAD.out _ HLE.out
        · have d3 : decide (id < 1) = false := decide_eq_false h3
          have d4 : decide (1073741824 < id) = true := decide_eq_true (by unfold ty.May at hm; omega)
          go_enter Try.func19, Try.ntmps19
          go_wp2_with fail
          rw [HW.out]
          go_wp2_with fail
          go_ret2
          exact HBAD.out _ HLE.out
#print axioms reftxput_any
end Go.Proofs.Ytocpeiocgppkfaa
