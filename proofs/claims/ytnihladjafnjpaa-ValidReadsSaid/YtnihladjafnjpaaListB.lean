/-
  Lists of ids, walked: whether something holds of all ids and their states.
-/
import Derived.Test.YtnihladjafnjpaaListA
namespace Go.Proofs.Ytnihladjafnjpaa
open Go.RowKit
set_option linter.unusedVariables false

/-- Something holds of all ids (from 1 on) and their states. -/
def allI (h : Int → Int → Bool) (l : List Int) : Bool := l.zipIdx.all fun p => h ((p.2 : Int) + 1) p.1
theorem allI_true {h : Int → Int → Bool} {l : List Int} (H : ∀ (k : Nat) (x : Int), l[k]? = some x → h ((k : Int) + 1) x = true) : allI h l = true := by
  unfold allI
  rw [List.all_eq_true]
  rintro ⟨x, k⟩ hp
  exact H k x (List.mem_zipIdx_iff_getElem?.1 hp)
theorem allI_false {h : Int → Int → Bool} {l : List Int} {k : Nat} {x : Int} (hk : l[k]? = some x) (H : h ((k : Int) + 1) x = false) : allI h l = false := by
  unfold allI
  rw [List.all_eq_false]
  exact ⟨(x, k), List.mem_zipIdx_iff_getElem?.2 hk, by simpa using H⟩

set_option maxHeartbeats 1000000 in
theorem all_any (w : World) (F : Nat) (q : Value) (h : Int → Int → Bool) (A : Option Addr) (n c : Nat) (l : List Int) (hl : l.length = n) (hn : n ≤ 1000000000) (hr : Row w w.heap.size A (ints l))
    (hF : ∀ args W, (callFunc F args).run Try.prog W = .ok (.enter F args) W)
    (hcl : ∀ W, Le w W → ∀ id s : Int, Calls Try.prog F #[.int .i64 id, .int .i64 s, q] W fun e W' => e = .returned (.bool (h id s)) ∧ Below W.heap.size W W') :
    Calls Try.prog 24 #[.slice A n c, .func (.func F) #[] #[q]] w fun e w' => e = .returned (.bool (allI h l)) ∧ Below w.heap.size w w' := by
  have HL := hide hl
  have HC := hide hcl
  clear hl hcl
  go_enter Try.func24, Try.ntmps24
  go_wp2_with fail
  go_loopw [9] (fun i wr => ∃ k : Nat, k ≤ n ∧ i = .int .i64 k ∧ Hid (∀ (j : Nat) (x : Int), j < k → l[j]? = some x → h ((j : Int) + 1) x = true) ∧ Below w.heap.size w wr) (fun i _ => n - (intOf i).toNat)
  case atStart => exact ⟨0, Nat.zero_le _, rfl, hide (fun j x hj => by omega), Below.refl _ _⟩
  case round =>
    obtain ⟨k, hk, rfl, HP, hb⟩ := hrel
    by_cases hkn : k < n
    · obtain ⟨y, hy⟩ : ∃ y, l[k]? = some y := ⟨_, List.getElem?_eq_getElem (by rw [HL.out]; exact hkn)⟩
      obtain ⟨bA, oA, rfl, hbA, hcA⟩ := hr.at_ (ints_at hy)
      have hc2 : wr.cell? ⟨bA, oA + k, none⟩ = some (.int .i64 y) := by rw [hb.cell (by simpa using hbA)]; exact hcA
      obtain ⟨d, hd⟩ : ∃ d : Int, d = (k : Int) + 1 := ⟨_, rfl⟩
      have hw : IntKind.i64.wrap ((k : Int) + 1) = d := by rw [IntWalk.i64_in _ (by omega)]; exact hd.symm
      have HD := hide hd
      have HY := hide hy
      have HB := hide hb
      clear hd hy hcA hb
      go_wp2_with fail
      refine (HC.out wr HB.out d y).mono ?_
      rintro e w2 ⟨rfl, hb2⟩
      have HB2 := hide (show Below w.heap.size w w2 from Le.trans HB.out hb2)
      have hz2 := hb2.size
      clear hb2 hc2
      cases hv : h d y
      · have HE := hide (allI_false HY.out (h := h) (by rw [← HD.out]; exact hv))
        go_wp2_with fail
        go_ret
        exact ⟨ret_bool HE.out.symm, HB2.out⟩
      · have HN : Hid (∀ (j : Nat) (x : Int), j < k + 1 → l[j]? = some x → h ((j : Int) + 1) x = true) := fun j x hj hx => by
          by_cases hjk : j < k
          · exact HP.out j x hjk hx
          · obtain rfl : j = k := by omega
            rw [HY.out] at hx
            injection hx with hx
            subst hx
            rw [← HD.out]
            exact hv
        clear hv
        go_wp2_with fail
        have hd := HD.out
        exact ⟨⟨k + 1, by omega, by congr 1, HN, HB2.out⟩, by simp only [intOf]; omega⟩
    · obtain rfl : k = n := by omega
      have HE := hide (allI_true (h := h) (l := l) fun j x hx => HP.out j x (by have := (List.getElem?_eq_some_iff.1 hx).1; rw [HL.out] at this; exact this) hx)
      have HB := hide hb
      clear hb
      go_wp2_with fail
      go_ret
      exact ⟨ret_bool HE.out.symm, HB.out⟩
#print axioms all_any
end Go.Proofs.Ytnihladjafnjpaa
