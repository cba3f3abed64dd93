/-
  The walk of Take: a number off the front of bytes, or none.
-/
import Derived.Test.YtjliocbdidiemaaDoorVarA
import Derived.Test.YtjliocbdidiemaaDoorClone8
namespace Go.Proofs.YtjliocbdidiemaaDoor
open Go.RowKit
set_option linter.unusedVariables false

def tkX (l : List Nat) : Nat := ((var.vtake l).map (·.1)).getD 0
def tkR (l : List Nat) : List Nat := ((var.vtake l).map (·.2)).getD []
def tkE (l : List Nat) : Int := if (var.vtake l).isNone then 2 else 0
theorem tk_none {l : List Nat} (h : var.vtake l = none) : tkX l = 0 ∧ tkR l = [] ∧ tkE l = 2 := by simp [tkX, tkR, tkE, h]
theorem tk_some {l r : List Nat} {x : Nat} (h : var.vtake l = some (x, r)) : tkX l = x ∧ tkR l = r ∧ tkE l = 0 := by simp [tkX, tkR, tkE, h]
/-- A number, what is left, an error's number. -/
def Takes (B : Nat) (x : Value) (r : List Nat) (e : Int) (w : World) (E : Ending) (w' : World) : Prop :=
  ∃ v, E = .returned (.tuple #[x, v, .int .i64 e]) ∧ w'.ownsRow B 5 1 v r.length (u8s r) ∧ Below B w w'
theorem takes_none {w w' : World} {l : List Nat} {E : Ending} (h : var.vtake l = none) (hE : E = .returned (.tuple #[.int .u64 0, .slice none 0 0, .int .i64 2])) (hb : Below w.heap.size w w') :
    Takes w.heap.size (.int .u64 (tkX l : Nat)) (tkR l) (tkE l) w E w' := by
  obtain ⟨h1, h2, h3⟩ := tk_none h
  rw [h1, h2, h3]
  exact ⟨_, hE, World.ownsRow_nil _ _ _ _, hb⟩

/-- What holds ahead of round k. -/
def TakeInv (l : List Nat) (k : Nat) (X : Int) : Prop := (k < 10 → ∃ a : Nat, X = (a : Int) ∧ a < 128 ^ k ∧ var.vtake l = var.ptake (10 - k) k a (l.drop k)) ∧ (k = 10 → var.vtake l = none)

theorem andNot128 (x : Nat) (h : x < 256) : bits .andNot .u8 (x : Int) 128 = ((x % 128 : Nat) : Int) := by
  have h1 : ∀ y : Fin 256, y.val &&& (255 - 128) = y.val % 128 := by decide +kernel
  have := u8_andNot_nat x 128 h (by omega)
  have h2 := h1 ⟨x, h⟩
  simp only at h2
  rw [h2] at this
  exact this
theorem and128_hi (x : Nat) (h : x < 256) (h2 : 128 ≤ x) : bits .and .u8 (x : Int) 128 = 128 := by
  have h1 : ∀ y : Fin 256, 128 ≤ y.val → y.val &&& 128 = 128 := by decide +kernel
  have := u8_and_nat x 128 h (by omega)
  rw [h1 ⟨x, h⟩ h2] at this
  exact this
theorem and128_lo (x : Nat) (h2 : x < 128) : bits .and .u8 (x : Int) 128 = 0 := by
  have h1 : ∀ y : Fin 128, y.val &&& 128 = 0 := by decide +kernel
  have := u8_and_nat x 128 (by omega) (by omega)
  rw [h1 ⟨x, h2⟩] at this
  exact this
theorem or_step (a x k : Nat) (hx : x < 256) (ha : a < 128 ^ k) (hk : k ≤ 9) (hd : x % 128 * 128 ^ k < 18446744073709551616) :
    bits .or .u64 (a : Int) (IntKind.u64.wrap (IntKind.u64.wrap (bits .andNot .u8 (x : Int) 128) * 2 ^ (7 * k))) = ((a + x % 128 * 128 ^ k : Nat) : Int) := by
  have e7 : (2 : Nat) ^ (7 * k) = 128 ^ k := by rw [Nat.pow_mul]
  have e7' : (2 : Int) ^ (7 * k) = ((128 ^ k : Nat) : Int) := by rw [← e7]; simp
  have ha2 : a < 18446744073709551616 := by
    have : (128 : Nat) ^ k ≤ 128 ^ 9 := Nat.pow_le_pow_right (by omega) hk
    have : (128 : Nat) ^ 9 < 18446744073709551616 := by decide
    omega
  rw [andNot128 x hx, IntKind.wrap_u64, IntKind.wrap_u64, show ((x % 128 : Nat) : Int) % 18446744073709551616 = ((x % 128 : Nat) : Int) by omega, e7', ← Int.natCast_mul,
    show ((x % 128 * 128 ^ k : Nat) : Int) % 18446744073709551616 = ((x % 128 * 128 ^ k : Nat) : Int) by omega, bits_or_u64_nat _ _ ha2 hd]
  congr 1
  have := Nat.two_pow_add_eq_or_of_lt (i := 7 * k) (b := a) (by rw [e7]; exact ha) (x % 128)
  rw [Nat.or_comm, Nat.mul_comm, ← e7, Nat.mul_comm (2 ^ (7 * k)), ← Nat.mul_comm, ← this]
  omega
theorem inv_step {l : List Nat} {k x : Nat} {X : Int} (h : TakeInv l k X) (hk : k < 10) (hx : l[k]? = some x) (hx8 : x < 256) (hx2 : 128 ≤ x) :
    TakeInv l (k + 1) (bits .or .u64 X (IntKind.u64.wrap (IntKind.u64.wrap (bits .andNot .u8 (x : Int) 128) * 2 ^ (7 * k)))) := by
  obtain ⟨a, rfl, ha, hv⟩ := h.1 hk
  have hdrop : l.drop k = x :: l.drop (k + 1) := by
    rw [List.drop_eq_getElem_cons (List.getElem?_eq_some_iff.1 hx).1, (List.getElem?_eq_some_iff.1 hx).2]
  have hf : 10 - k = (10 - (k + 1)) + 1 := by omega
  rw [hdrop, hf] at hv
  simp only [var.ptake] at hv
  rw [if_pos hx2] at hv
  refine ⟨fun hk1 => ⟨a + x % 128 * 128 ^ k, ?_, ?_, ?_⟩, fun hk1 => ?_⟩
  · refine or_step a x k hx8 ha (by omega) ?_
    have h1 : (128 : Nat) ^ k ≤ 128 ^ 8 := Nat.pow_le_pow_right (by omega) (by omega)
    have h2 : x % 128 * 128 ^ k ≤ 127 * 128 ^ 8 := Nat.mul_le_mul (by omega) h1
    have h3 : 127 * 128 ^ 8 < 18446744073709551616 := by decide
    omega
  · rw [Nat.pow_succ]
    have : x % 128 * 128 ^ k ≤ 127 * 128 ^ k := Nat.mul_le_mul_right _ (by omega)
    omega
  · rw [hv, show x % 128 = x - 128 by omega]
  · rw [hv, show 10 - (k + 1) = 0 by omega]; rfl
theorem inv_end {l : List Nat} {k x : Nat} {X : Int} (h : TakeInv l k X) (hk : k < 10) (hx : l[k]? = some x) (hx2 : x < 128) :
    var.vtake l = if (x = 0 ∧ 0 < k) ∨ (k = 9 ∧ 1 < x) then none else some (X.toNat + x * 128 ^ k, l.drop (k + 1)) := by
  obtain ⟨a, rfl, ha, hv⟩ := h.1 hk
  have hdrop : l.drop k = x :: l.drop (k + 1) := by
    rw [List.drop_eq_getElem_cons (List.getElem?_eq_some_iff.1 hx).1, (List.getElem?_eq_some_iff.1 hx).2]
  have hf : 10 - k = (10 - (k + 1)) + 1 := by omega
  rw [hdrop, hf] at hv
  simp only [var.ptake] at hv
  rw [if_neg (by omega)] at hv
  rw [hv, Int.toNat_natCast]
theorem inv_out {l : List Nat} {k : Nat} {X : Int} (h : TakeInv l k X) (hk : k ≤ l.length) (hk2 : ¬ (k < l.length ∧ k < 10)) (hk3 : k ≤ 10) : var.vtake l = none := by
  by_cases h10 : k = 10
  · exact h.2 h10
  · obtain ⟨a, rfl, ha, hv⟩ := h.1 (by omega)
    have hf : 10 - k = (10 - (k + 1)) + 1 := by omega
    rw [hv, List.drop_eq_nil_of_le (by omega), hf]
    rfl
theorem end_value {l : List Nat} {k x : Nat} {X : Int} (h : TakeInv l k X) (hk : k < 10) (hx2 : x < 128) (hno : ¬ ((x = 0 ∧ 0 < k) ∨ (k = 9 ∧ 1 < x))) :
    bits .or .u64 X (IntKind.u64.wrap (IntKind.u64.wrap (bits .andNot .u8 (x : Int) 128) * 2 ^ (7 * k))) = ((X.toNat + x * 128 ^ k : Nat) : Int) := by
  obtain ⟨a, rfl, ha, hv⟩ := h.1 hk
  rw [Int.toNat_natCast]
  have e : x % 128 = x := by omega
  have := or_step a x k (by omega) ha (by omega) (by
    rw [e]
    by_cases h9 : k = 9
    · subst h9
      have : x ≤ 1 := by omega
      have : x * 128 ^ 9 ≤ 1 * 128 ^ 9 := Nat.mul_le_mul_right _ this
      have h3 : 1 * 128 ^ 9 < 18446744073709551616 := by decide
      exact Nat.lt_of_le_of_lt this h3
    · have h1 : (128 : Nat) ^ k ≤ 128 ^ 8 := Nat.pow_le_pow_right (by omega) (by omega)
      have h2 : x * 128 ^ k ≤ 127 * 128 ^ 8 := Nat.mul_le_mul (by omega) h1
      have h3 : 127 * 128 ^ 8 < 18446744073709551616 := by decide
      omega)
  rw [e] at this
  exact this

set_option maxRecDepth 100000 in
set_option maxHeartbeats 4000000 in
theorem take_any (w : World) (A : Option Addr) (n c : Nat) (l : List Nat) (hl : l.length = n) (hn : n ≤ 1000000000) (hnc : n ≤ c) (hc : c ≤ maxLen) (h8 : ∀ x ∈ l, x < 256) (hr : Row w w.heap.size A (u8s l)) :
    Calls Tryd.prog 41 #[.slice A n c] w (Takes w.heap.size (.int .u64 (tkX l : Nat)) (tkR l) (tkE l) w) := by
  unfold maxLen at hc
  have H8 := hide h8
  have HL := hide hl
  clear h8 hl
  by_cases h10 : n ≤ 10
  all_goals
    go_enter Tryd.func41, Tryd.ntmps41
    go_wp2_with fail
    go_loop [5, 11] (fun x i => ∃ (k : Nat) (X : Int), k ≤ n ∧ k ≤ 10 ∧ i = .int .i64 k ∧ x = .int .u64 X ∧ TakeInv l k X) (fun _ i => 10 - (intOf i).toNat)
    case atStart => exact ⟨0, 0, Nat.zero_le _, Nat.zero_le _, rfl, rfl, fun _ => ⟨0, rfl, by simp, rfl⟩, fun h => by omega⟩
    case round =>
      obtain ⟨k, X, hk, hk10, rfl, rfl, hinv⟩ := hrel
      have HI := hide hinv
      clear hinv
      by_cases hlt : k < n ∧ k < 10
      · obtain ⟨hkn, hk9⟩ := hlt
        obtain ⟨x, hx⟩ : ∃ x, l[k]? = some x := ⟨_, List.getElem?_eq_getElem (by rw [HL.out]; exact hkn)⟩
        have hx8 : x < 256 := H8.out x (List.mem_of_getElem? hx)
        obtain ⟨bA, oA, rfl, -, hcA⟩ := hr.at_ (u8s_at hx)
        have HX := hide hx
        clear hx
        by_cases h128 : 128 ≤ x
        · have hA := and128_hi x hx8 h128
          have HN := hide (inv_step HI.out hk9 HX.out hx8 h128)
          obtain ⟨Y, hY⟩ : ∃ Y, bits .or .u64 X (IntKind.u64.wrap (IntKind.u64.wrap (bits .andNot .u8 (x : Int) 128) * 2 ^ (7 * k))) = Y := ⟨_, rfl⟩
          rw [hY] at HN
          go_wp2_with fail
          exact ⟨⟨k + 1, Y, by omega, by omega, by go_num, rfl, HN.out⟩, by simp [intOf]; omega⟩
        · have hA := and128_lo x (by omega)
          have hV := inv_end HI.out hk9 HX.out (by omega)
          by_cases hbad : (x = 0 ∧ 0 < k) ∨ (k = 9 ∧ 1 < x)
          · rw [if_pos hbad] at hV
            have HV := hide hV
            obtain ⟨Y, hY⟩ : ∃ Y, bits .or .u64 X (IntKind.u64.wrap (IntKind.u64.wrap (bits .andNot .u8 (x : Int) 128) * 2 ^ (7 * k))) = Y := ⟨_, rfl⟩
            clear hV
            rcases hbad with ⟨rfl, hk0⟩ | ⟨rfl, hx1⟩
            · go_wp2_with fail
              go_ret3
              exact takes_none HV.out rfl (Below.refl _ _)
            · have hx0 : ((x : Int) == 0) = false := by simp; omega
              go_wp2_with fail
              go_ret3
              exact takes_none HV.out rfl (Below.refl _ _)
          · rw [if_neg hbad] at hV
            have hE := end_value HI.out hk9 (by omega) hbad
            obtain ⟨t1, t2, t3⟩ := tk_some hV
            obtain ⟨Y, hY⟩ : ∃ Y, Y = X.toNat + x * 128 ^ k := ⟨_, rfl⟩
            rw [← hY] at hE t1
            rw [t1, t2, t3]
            have hlen : (u8s (l.drop (k + 1))).length = (n - (k + 1)) * 1 := by simp [u8s, HL.out]
            have hlen2 : (l.drop (k + 1)).length = n - (k + 1) := by simp [HL.out]
            have HLN := hide hlen
            have HLN2 := hide hlen2
            clear hV t1 t2 t3 hY hlen hlen2
            have hE2 := hide (congrArg (Value.int .u64) hE)
            clear hE
            by_cases hcap : c = k + 1
            · have hrow : ∀ A, Row w w.heap.size A (u8s (l.drop (k + 1))) := fun A => by
                rw [List.drop_eq_nil_of_le (by rw [HL.out]; omega)]; exact Row.none_
              by_cases hx0 : x = 0
              · have hx0' : ((x : Int) == 0) = true := by simp; omega
                have hk0 : k ≤ 0 := by omega
                clear hx0
                go_wp2_with fail
                all_goals
                  refine (clone8_any _ _ (n - (k + 1)) _ (u8s (l.drop (k + 1))) HLN.out u8s_one (by omega) (hrow _)).mono ?_
                  rintro E1 w1 ⟨v1, rfl, hown1, hb1⟩
                  go_wp2_with fail
                  go_ret3
                  exact ⟨_, by rw [hE2.out]; rfl, by rw [HLN2.out]; exact hown1, hb1⟩
              · have hx0' : ((x : Int) == 0) = false := by simp; omega
                by_cases hk9' : k = 9
                · have hk9'' : ((k : Int) == 9) = true := by simp; omega
                  have hx1 : x ≤ 1 := by omega
                  clear hk9'
                  go_wp2_with fail
                  all_goals
                    refine (clone8_any _ _ (n - (k + 1)) _ (u8s (l.drop (k + 1))) HLN.out u8s_one (by omega) (hrow _)).mono ?_
                    rintro E1 w1 ⟨v1, rfl, hown1, hb1⟩
                    go_wp2_with fail
                    go_ret3
                    exact ⟨_, by rw [hE2.out]; rfl, by rw [HLN2.out]; exact hown1, hb1⟩
                · have hk9'' : ((k : Int) == 9) = false := by simp; omega
                  go_wp2_with fail
                  all_goals
                    refine (clone8_any _ _ (n - (k + 1)) _ (u8s (l.drop (k + 1))) HLN.out u8s_one (by omega) (hrow _)).mono ?_
                    rintro E1 w1 ⟨v1, rfl, hown1, hb1⟩
                    go_wp2_with fail
                    go_ret3
                    exact ⟨_, by rw [hE2.out]; rfl, by rw [HLN2.out]; exact hown1, hb1⟩
            · have hrow : Row w w.heap.size (some ⟨bA, oA + (k + 1), none⟩) (u8s (l.drop (k + 1))) := by
                have := hr.drop (k + 1) (A' := some ⟨bA, oA + (k + 1), none⟩) (fun h => by simp [add_eq])
                rwa [u8s_drop] at this
              by_cases hx0 : x = 0
              · have hx0' : ((x : Int) == 0) = true := by simp; omega
                have hk0 : k ≤ 0 := by omega
                clear hx0
                go_wp2_with fail
                all_goals
                  refine (clone8_any _ _ (n - (k + 1)) _ (u8s (l.drop (k + 1))) HLN.out u8s_one (by omega) hrow).mono ?_
                  rintro E1 w1 ⟨v1, rfl, hown1, hb1⟩
                  go_wp2_with fail
                  go_ret3
                  exact ⟨_, by rw [hE2.out]; rfl, by rw [HLN2.out]; exact hown1, hb1⟩
              · have hx0' : ((x : Int) == 0) = false := by simp; omega
                by_cases hk9' : k = 9
                · have hk9'' : ((k : Int) == 9) = true := by simp; omega
                  have hx1 : x ≤ 1 := by omega
                  clear hk9'
                  go_wp2_with fail
                  all_goals
                    refine (clone8_any _ _ (n - (k + 1)) _ (u8s (l.drop (k + 1))) HLN.out u8s_one (by omega) hrow).mono ?_
                    rintro E1 w1 ⟨v1, rfl, hown1, hb1⟩
                    go_wp2_with fail
                    go_ret3
                    exact ⟨_, by rw [hE2.out]; rfl, by rw [HLN2.out]; exact hown1, hb1⟩
                · have hk9'' : ((k : Int) == 9) = false := by simp; omega
                  go_wp2_with fail
                  all_goals
                    refine (clone8_any _ _ (n - (k + 1)) _ (u8s (l.drop (k + 1))) HLN.out u8s_one (by omega) hrow).mono ?_
                    rintro E1 w1 ⟨v1, rfl, hown1, hb1⟩
                    go_wp2_with fail
                    go_ret3
                    exact ⟨_, by rw [hE2.out]; rfl, by rw [HLN2.out]; exact hown1, hb1⟩
      · have hV := inv_out HI.out (by rw [HL.out]; exact hk) (by rw [HL.out]; exact hlt) hk10
        have HV := hide hV
        clear hV
        go_wp2_with fail
        go_ret3
        exact takes_none HV.out rfl (Below.refl _ _)
#print axioms take_any
end Go.Proofs.YtjliocbdidiemaaDoor
