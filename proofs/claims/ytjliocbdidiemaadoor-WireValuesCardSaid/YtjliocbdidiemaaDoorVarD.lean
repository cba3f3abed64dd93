/-
  The walk of the document's Take.
-/
import Derived.Test.YtjliocbdidiemaaDoorVarC
namespace Go.Proofs.YtjliocbdidiemaaDoor
open Go.RowKit
set_option linter.unusedVariables false

theorem conv8 (W : World) (B : Nat) (A : Option Addr) (n c : Nat) (l : List Nat) (hl : l.length = n) (h8 : ∀ x ∈ l, x < 256) (hr : Row W B A (u8s l)) :
    (convert 22 9 (.slice A n c)).run Tryd.prog W = .ok (.string (str l)) W :=
  run_string_row W 22 9 5 Tryd.underlying22 Tryd.underlying5 Tryd.underlying9 B A n c l hl h8 hr
def PreInv (l : List Nat) (k : Nat) : Prop := ∀ (j x : Nat), j < k → l[j]? = some x → 128 ≤ x
theorem pre_all {l : List Nat} (h : PreInv l l.length) : var.vtake l = none := var.vtake_all fun c hc => by
  obtain ⟨j, hj, rfl⟩ := List.mem_iff_getElem.1 hc
  exact h j _ hj (List.getElem?_eq_getElem hj)
/-- The sum so far, from the m-th byte on. -/
def part7 (l : List Nat) (k m : Nat) : Nat := var.vsum ((l.take (k + 1)).drop m) % 18446744073709551616
theorem part7_s64 (l : List Nat) (k m : Nat) : var.S64 (part7 l k m) := var.S64.mod _
theorem part7_end (l : List Nat) (k : Nat) : part7 l k (k + 1) = 0 := by
  unfold part7
  rw [List.drop_eq_nil_of_le (by simp; omega)]; rfl
theorem part7_step {l : List Nat} {k j x : Nat} (hj : j ≤ k) (hx : l[j]? = some x) : part7 l k j = (128 * part7 l k (j + 1) + x % 128) % 18446744073709551616 := by
  unfold part7
  have h1 : (l.take (k + 1))[j]? = some x := by rw [List.getElem?_take, if_pos (by omega)]; exact hx
  have hl := (List.getElem?_eq_some_iff.1 h1).1
  have e : (l.take (k + 1)).drop j = x :: (l.take (k + 1)).drop (j + 1) := by
    rw [List.drop_eq_getElem_cons hl, (List.getElem?_eq_some_iff.1 h1).2]
  rw [e]
  simp only [var.vsum]
  omega
/-- What the document's way comes to, once the number of bytes is known. -/
theorem ref_end {l : List Nat} {k x : Nat} (hp : PreInv l k) (h8 : ∀ x ∈ l, x < 256) (hx : l[k]? = some x) (hk : k ≤ 9) (hlast : k < 9 → x < 128) :
    var.vtake l = if var.vput (part7 l k 0) = l.take (k + 1) then some (part7 l k 0, l.drop (k + 1)) else none := by
  have hkl := (List.getElem?_eq_some_iff.1 hx).1
  have e1 : l.take (k + 1) = l.take k ++ [x] := by rw [List.take_add_one, hx]; rfl
  have e2 : l = l.take k ++ x :: l.drop (k + 1) := by
    conv => lhs; rw [← List.take_append_drop k l]
    rw [List.drop_eq_getElem_cons hkl, (List.getElem?_eq_some_iff.1 hx).2]
  have h := var.ref_take (l.take k) x (l.drop (k + 1)) (by simp; omega) (fun y hy => by
    obtain ⟨j, hj, rfl⟩ := List.mem_iff_getElem.1 hy
    have hj' : j < k := by simp at hj; omega
    refine ⟨hp j _ hj' ?_, h8 _ (List.mem_of_mem_take hy)⟩
    rw [List.getElem_take]
    exact List.getElem?_eq_getElem _) (h8 x (List.mem_of_getElem? hx)) (fun h => hlast (by simp at h; omega))
  rw [← e2, ← e1] at h
  unfold part7
  rw [List.drop_zero]
  exact h

set_option maxRecDepth 100000 in
set_option maxHeartbeats 4000000 in
theorem reftake_any (w : World) (A : Option Addr) (n c : Nat) (l : List Nat) (hl : l.length = n) (hn : n ≤ 1000000000) (hnc : n ≤ c) (hc : c ≤ maxLen) (h8 : ∀ x ∈ l, x < 256) (hr : Row w w.heap.size A (u8s l)) :
    Calls Tryd.prog 20 #[.slice A n c] w (Takes w.heap.size (.int .u64 (tkX l : Nat)) (tkR l) (tkE l) w) := by
  unfold maxLen at hc
  have H8 := hide h8
  have HL := hide hl
  clear h8 hl
  go_enter Tryd.func20, Tryd.ntmps20
  go_wp2_with fail
  go_loop [5] (fun i => ∃ k : Nat, k ≤ n ∧ k ≤ 9 ∧ i = .int .i64 k ∧ PreInv l k) (fun i => 9 - (intOf i).toNat)
  case atStart => exact ⟨0, Nat.zero_le _, Nat.zero_le _, rfl, fun j x hj => by omega⟩
  case round =>
    obtain ⟨k, hk, hk9, rfl, hp⟩ := hrel
    have HP := hide hp
    clear hp
    by_cases hkn : k < n
    · obtain ⟨x, hx⟩ : ∃ x, l[k]? = some x := ⟨_, List.getElem?_eq_getElem (by rw [HL.out]; exact hkn)⟩
      have hx8 : x < 256 := H8.out x (List.mem_of_getElem? hx)
      obtain ⟨bA, oA, rfl, -, hcA⟩ := hr.at_ (u8s_at hx)
      have HX := hide hx
      clear hx
      by_cases hgo : k < 9 ∧ 128 ≤ x
      · obtain ⟨hk8, h128⟩ := hgo
        have HP2 : Hid (PreInv l (k + 1)) := fun j y hj hy => by
          by_cases hjk : j < k
          · exact HP.out j y hjk hy
          · obtain rfl : j = k := by omega
            rw [HX.out] at hy
            injection hy with hy
            omega
        go_wp2_with fail
        exact ⟨⟨k + 1, by omega, by omega, by go_num, HP2.out⟩, by simp [intOf]; omega⟩
      · have hV := ref_end HP.out H8.out HX.out hk9 (fun h => by omega)
        have HV := hide hV
        clear hV
        by_cases hk8 : k < 9
        all_goals
          go_wp2_with fail
          go_loop [6, 7] (fun xv iv => ∃ m : Nat, m ≤ k + 1 ∧ iv = .int .i64 ((m : Int) - 1) ∧ xv = .int .u64 (part7 l k m : Nat)) (fun _ iv => (intOf iv + 1).toNat)
          case atStart => exact ⟨k + 1, Nat.le_refl _, by go_num, by rw [part7_end]; rfl⟩
          case round =>
            obtain ⟨m, hm, rfl, rfl⟩ := hrel
            by_cases hm0 : 1 ≤ m
            · obtain ⟨y, hy⟩ : ∃ y, l[m - 1]? = some y := ⟨_, List.getElem?_eq_getElem (by rw [HL.out]; omega)⟩
              have hy8 : y < 256 := H8.out y (List.mem_of_getElem? hy)
              obtain ⟨bB, oB, hAB, -, hcB⟩ := hr.at_ (u8s_at hy)
              simp only [Option.some.injEq, Addr.mk.injEq, and_true] at hAB
              obtain ⟨rfl, rfl⟩ := hAB
              have HY := hide hy
              clear hy
              have hst := part7_step (l := l) (k := k) (j := m - 1) (by omega) HY.out
              rw [show m - 1 + 1 = m by omega] at hst
              have HST := hide hst
              clear hst
              go_wp2_with fail
              refine ⟨⟨m - 1, by omega, by congr 1; omega, ?_⟩, by simp [intOf]; omega⟩
              rw [HST.out, IntKind.wrap_u64, IntKind.wrap_u64]
              congr 1
              omega
            · obtain rfl : m = 0 := by omega
              obtain ⟨X, hX⟩ : ∃ X, X = part7 l k 0 := ⟨_, rfl⟩
              have H64 := hide (part7_s64 l k 0)
              rw [← hX] at HV H64 ⊢
              clear hX
              obtain ⟨k1, hk1⟩ : ∃ k1, k1 = k + 1 := ⟨_, rfl⟩
              have hk1a : k1 ≤ n := by omega
              have hk1b : k + 1 ≤ k1 := by omega
              rw [← hk1] at HV
              have hlt : (l.take k1).length = k1 := by rw [List.length_take, HL.out]; omega
              have HLT := hide hlt
              clear hlt
              have hsum : IntKind.i64.wrap ((k : Int) + 1) = (k1 : Int) := by rw [IntWalk.i64_in _ (by omega)]; omega
              have hsum0 : (0 : Int) ≤ (k1 : Int) := by omega
              have hsum1 : (k1 : Int) ≤ (c : Int) := by omega
              have hrt := hr.take k1
              rw [u8s_take] at hrt
              have hsum3 : (k : Int) + 1 = (k1 : Int) := by omega
              have hsum4 : IntKind.i64.wrap (k1 : Int) = (k1 : Int) := IntWalk.i64_in _ (by omega)
              have HK := hide hk1
              clear hk1
              go_wp2_with fail
              refine region_pi [(0, true), (3, true), (4, true), (5, true), (6, true), (7, true), (1, false), (2, true), (8, true)] (by kernel_rfl) (by kernel_rfl) ?_
              simp only [opsPi, List.filterMap_cons, List.filterMap_nil, List.getElem?_toArray, List.getElem?_cons_zero, List.getElem?_cons_succ, Option.map_some]
              have q0 : ∀ W, Le w.drew W → (convert 22 9 (.slice (some ⟨bA, oA, none⟩) k1 c)).run Tryd.prog W = .ok (.string (str (l.take k1))) W := fun W hW => conv8 W w.heap.size _ k1 c _ HLT.out (take8 H8.out _) (hW.row hrt.drew (Nat.le_refl _))
              repeat (refine pi_take (v := _) rfl (fun W hW => by go_simp <;> exact rfl) ?_; simp only [Act.put, List.setIfInBounds_toArray, List.set_cons_zero, List.set_cons_succ])
              refine pi_run ?_
              go_wp2_with fail
              refine (refput_any _ none 0 0 [] X rfl (by omega) Row.none_ H64.out).mono ?_
              rintro E1 w1 ⟨v1, rfl, hown1, hb1⟩
              go_wp2_with fail
              refine ⟨hb1, ?_⟩
              rw [Nat.zero_add, List.nil_append] at hown1
              obtain ⟨A1, c1, rfl, hc1, -⟩ := own_form hown1
              have q1 : ∀ W, Le w1 W → (convert 22 9 (.slice A1 (var.vput X).length c1)).run Tryd.prog W = .ok (.string (str (var.vput X))) W := fun W hW => conv8 W w1.heap.size A1 _ c1 _ rfl (var.vput8 X) (hW.row (Row.of_own hown1) (Nat.le_refl _))
              clear q0
              have hb2 : Below w.heap.size w w1 := below_undrew hb1
              by_cases heq : var.vput X = l.take k1
              · have hS : ((str (var.vput X)).toList == (str (l.take k1)).toList) = true := by rw [str_beq (var.vput8 X) (take8 H8.out _)]; exact decide_eq_true heq
                have hV := HV.out
                rw [if_pos heq] at hV
                obtain ⟨t1, t2, t3⟩ := tk_some hV
                have T1 := hide t1
                have T2 := hide t2
                have T3 := hide t3
                have hlen : (u8s (l.drop k1)).length = (n - k1) * 1 := by simp [u8s, HL.out]
                have hlen2 : (l.drop k1).length = n - k1 := by simp [HL.out]
                have HLN := hide hlen
                have HLN2 := hide hlen2
                clear heq hV t1 t2 t3 hlen hlen2 HV hcA
                repeat (refine pi_take (v := _) rfl (fun W hW => by go_simp <;> exact rfl) ?_; simp only [Act.put, List.setIfInBounds_toArray, List.set_cons_zero, List.set_cons_succ])
                refine pi_done ?_
                by_cases hcap : c = k1
                · have hrow : ∀ A, Row w1 w1.heap.size A (u8s (l.drop k1)) := fun A => by
                    rw [List.drop_eq_nil_of_le (by rw [HL.out]; omega)]; exact Row.none_
                  have hz1 := hb2.size
                  go_wp2_with (at_builtin; refine wpList_append_row _ rfl (.tmp 53) (.tmp 57) 22 rfl w1.heap.size 5 info8 Tryd.underlying22 rfl (by omega) _ 0 [] rfl (World.ownsRow_lit _ #[] 0 (Nat.le_refl _) (by simp) rfl) w1.heap.size _ (n - k1) _ (u8s (l.drop k1)) rfl HLN.out ((hrow _).alloc (Nat.le_refl _) _) u8s_one (by simp only [maxLen]; omega) (by omega) (by simp) ?_; intro v3 w3 hown3 hg3 hat3)
                  all_goals
                    go_ret3
                    rw [T1.out, T2.out, T3.out]
                    exact ⟨_, rfl, by rw [HLN2.out]; exact own_more (by simpa using hown3) hb2.size, (hb2.alloc hb2.size _).grown hg3 (by simp; omega) (fun g hg => blk_ge hg hb2.size)⟩
                · have hrow : Row w1 w1.heap.size (some ⟨bA, oA + k1, none⟩) (u8s (l.drop k1)) := by
                    have := hr.drop k1 (A' := some ⟨bA, oA + k1, none⟩) (fun h => by simp [add_eq])
                    rw [u8s_drop] at this
                    exact (this.below hb2 (Nat.le_refl _)).more hb2.size
                  have hz1 := hb2.size
                  go_wp2_with (at_builtin; refine wpList_append_row _ rfl (.tmp 53) (.tmp 57) 22 rfl w1.heap.size 5 info8 Tryd.underlying22 rfl (by omega) _ 0 [] rfl (World.ownsRow_lit _ #[] 0 (Nat.le_refl _) (by simp) rfl) w1.heap.size _ (n - k1) _ (u8s (l.drop k1)) rfl HLN.out (hrow.alloc (Nat.le_refl _) _) u8s_one (by simp only [maxLen]; omega) (by omega) (by simp) ?_; intro v3 w3 hown3 hg3 hat3)
                  all_goals
                    go_ret3
                    rw [T1.out, T2.out, T3.out]
                    exact ⟨_, rfl, by rw [HLN2.out]; exact own_more (by simpa using hown3) hb2.size, (hb2.alloc hb2.size _).grown hg3 (by simp; omega) (fun g hg => blk_ge hg hb2.size)⟩
              · have hS : ((str (var.vput X)).toList == (str (l.take k1)).toList) = false := by rw [str_beq (var.vput8 X) (take8 H8.out _)]; exact decide_eq_false heq
                have hV := HV.out
                rw [if_neg heq] at hV
                have HV2 := hide hV
                clear hV HV heq
                repeat (refine pi_take (v := _) rfl (fun W hW => by go_simp <;> exact rfl) ?_; simp only [Act.put, List.setIfInBounds_toArray, List.set_cons_zero, List.set_cons_succ])
                refine pi_done ?_
                go_wp2_with fail
                go_ret3
                exact takes_none HV2.out rfl hb2
    · obtain rfl : k = n := by omega
      have HV := hide (pre_all (l := l) (by rw [HL.out]; exact HP.out))
      go_wp2_with fail
      go_ret3
      exact takes_none HV.out rfl (Below.refl _ _)
#print axioms reftake_any
end Go.Proofs.YtjliocbdidiemaaDoor
