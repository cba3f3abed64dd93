/-
  The law on numbers that stand one behind the other, walked.
-/
import Derived.Test.YtkhdkfpgalcehaaVarH
import Derived.Test.YtkhdkfpgalcehaaRegion
namespace Go.Proofs.Ytkhdkfpgalcehaa
open Go.RowKit
set_option linter.unusedVariables false

/-- Both forms of each number, one behind the other. -/
def enc (l : List Int) : List Nat := l.flatMap fun x => var.vput (snum x false) ++ var.vput (zig x)
def ints (l : List Int) : List Value := l.map fun x => .int .i64 x
theorem ints_len (l : List Int) : (ints l).length = l.length := by simp [ints]
theorem ints_at {l : List Int} {k : Nat} {x : Int} (h : l[k]? = some x) : (ints l)[k]? = some (.int .i64 x) := by simp [ints, h]
theorem ints_take (l : List Int) (k : Nat) : (ints l).take k = ints (l.take k) := by simp [ints]
theorem enc8 (l : List Int) : ∀ c ∈ enc l, c < 256 := by
  intro c hc
  obtain ⟨x, -, hc⟩ := List.mem_flatMap.1 hc
  exact (List.mem_append.1 hc).elim (var.vput8 _ c) (var.vput8 _ c)
theorem enc_cons (x : Int) (l : List Int) : enc (x :: l) = var.vput (snum x false) ++ (var.vput (zig x) ++ enc l) := by simp [enc]
theorem enc_snoc (l : List Int) (x : Int) : enc (l ++ [x]) = enc l ++ var.vput (snum x false) ++ var.vput (zig x) := by simp [enc]
theorem enc_len {l : List Int} (h : ∀ x ∈ l, I64 x) : (enc l).length ≤ 20 * l.length := by
  induction l with
  | nil => simp [enc]
  | cons x l ih =>
    have h1 := var.vput_len10 (snum_s64 (h x (by simp)) false)
    have h2 := var.vput_len10 (zig_s64 (h x (by simp)))
    have := ih fun y hy => h y (by simp [hy])
    rw [enc_cons]
    simp only [List.length_append, List.length_cons]
    omega
theorem enc_take {l : List Int} {k : Nat} {x : Int} (h : l[k]? = some x) : enc (l.take (k + 1)) = enc (l.take k) ++ var.vput (snum x false) ++ var.vput (zig x) := by
  rw [List.take_add_one, h, Option.toList_some, enc_snoc]
theorem enc_drop {l : List Int} {k : Nat} {x : Int} (h : l[k]? = some x) : enc (l.drop k) = var.vput (snum x false) ++ (var.vput (zig x) ++ enc (l.drop (k + 1))) := by
  obtain ⟨hk, rfl⟩ := List.getElem?_eq_some_iff.1 h
  rw [List.drop_eq_getElem_cons hk, enc_cons]
theorem take_enc {l : List Int} {k : Nat} {x : Int} (h : l[k]? = some x) (hx : I64 x) : tkX (enc (l.drop k)) = snum x false ∧ tkR (enc (l.drop k)) = var.vput (zig x) ++ enc (l.drop (k + 1)) ∧ tkE (enc (l.drop k)) = 0 :=
  tk_some (by rw [enc_drop h]; exact var.vtake_vput _ (snum_s64 hx false) _)
theorem takeint_enc {x : Int} (hx : I64 x) (r : List Nat) : itX true (var.vput (zig x) ++ r) = x ∧ itR true (var.vput (zig x) ++ r) = r ∧ itE true (var.vput (zig x) ++ r) = 0 :=
  it_some (by simp [itake, var.vtake_vput _ (zig_s64 hx), zag_zig x hx])
theorem enc_nil {l : List Int} : enc (l.drop l.length) = [] := by simp [enc]

set_option maxRecDepth 100000 in
set_option maxHeartbeats 4000000 in
theorem back_walk (w : World) (A : Option Addr) (n c : Nat) (l : List Int) (hl : l.length = n) (hnc : n ≤ c) (hc : c ≤ maxLen) (hi : ∀ x ∈ l, I64 x) (hr : Row w w.heap.size A (ints l)) :
    Calls Try.prog 7 #[.slice A n c] w (Yes w) := by
  have HI := hide (show ∀ x ∈ l.take 60, I64 x from fun x hx => hi x (List.mem_of_mem_take hx))
  have HL := hide (show (l.take 60).length = min n 60 by rw [List.length_take, hl]; omega)
  have hr2 := hr.take 60
  rw [ints_take] at hr2
  generalize l.take 60 = l2 at HI HL hr2
  clear hi hl hr
  unfold maxLen at hc
  obtain ⟨m, hm⟩ : ∃ m : Nat, m = min n 60 := ⟨_, rfl⟩
  rw [← hm] at HL
  have hm1 : m ≤ 60 := by omega
  have hm2 : m ≤ n := by omega
  have hmin : min (n : Int) 60 = (m : Int) := by omega
  have hmin2 : (if (60 : Int) < (n : Int) then (60 : Int) else (n : Int)) = (m : Int) := by split <;> omega
  have HM := hide hm
  clear hm
  go_enter Try.func7, Try.ntmps7
  go_wp2_with fail
  refine (shown_any _).mono ?_
  rintro e w1 ⟨rfl, hb1⟩
  go_wp2_with fail
  have hz1 := hb1.size
  go_loopw [4, 6] (fun bv i wr => ∃ k : Nat, k ≤ m ∧ i = .int .i64 k ∧ wr.ownsRow w.heap.size 5 1 bv (enc (l2.take k)).length (u8s (enc (l2.take k))) ∧ Below w.heap.size w wr) (fun _ i _ => m - (intOf i).toNat)
  case atStart => exact ⟨0, Nat.zero_le _, rfl, by simpa [enc, u8s] using World.ownsRow_lit (base := w.heap.size) (e := 5) w1 #[] 0 hz1 (by simp) rfl, hb1.alloc hz1 _⟩
  case round =>
    obtain ⟨k, hk, rfl, hown, hb⟩ := hrel
    have hz := hb.size
    by_cases hkm : k < m
    · obtain ⟨x, hx⟩ : ∃ x, l2[k]? = some x := ⟨_, List.getElem?_eq_getElem (by rw [HL.out]; exact hkm)⟩
      have HX := hide (HI.out x (List.mem_of_getElem? hx))
      obtain ⟨bA, oA, rfl, hbA, hcA⟩ := hr2.at_ (ints_at hx)
      have HE := hide (enc_take hx)
      have hle : (enc (l2.take k)).length ≤ 1200 := by
        have := enc_len (l := l2.take k) (fun y hy => HI.out y (List.mem_of_mem_take hy))
        have h2 : (l2.take k).length ≤ 60 := by rw [List.length_take, HL.out]; omega
        omega
      have HU := hide (snum_s64 HX.out false)
      have HZ := hide (zig_s64 HX.out)
      have hw := unum_wrap x
      have HST := hide (snum_true x)
      obtain ⟨A1, c1, rfl, hc1, hc1'⟩ := own_form hown
      have HR1 := hide (Row.of_own hown)
      obtain ⟨N, hN⟩ : ∃ N, N = (enc (l2.take k)).length := ⟨_, rfl⟩
      obtain ⟨p, hp⟩ : ∃ p, p = enc (l2.take k) := ⟨_, rfl⟩
      rw [← hp] at hN HR1 HE
      have hNp : p.length = N := hN.symm
      rw [← hp, ← hN] at hle hc1 ⊢
      have HN := hide hNp
      obtain ⟨U, hU⟩ : ∃ U, U = snum x false := ⟨_, rfl⟩
      rw [← hU] at hw HU HE
      have hlu := var.vput_len10 HU.out
      obtain ⟨M, hM⟩ : ∃ M, M = N + (var.vput U).length := ⟨_, rfl⟩
      have hM2 : M ≤ 1210 := by omega
      have HM2 := hide hM
      have HMl := hide (show (p ++ var.vput U).length = M by rw [List.length_append, hNp, hM])
      have hload : ∀ W, Le wr.drew W → W.cell? ⟨bA, oA + k, none⟩ = some (.int .i64 x) := fun W hW => by
        rw [(hb.drew.trans (hW.mono (by simp; omega))).cell (by simpa using hbA)]; exact hcA
      have hmn : k < n := by omega
      have HB := hide hb
      clear hown hx hN hp hNp hU hM hlu hcA hb hr2
      go_wp2_with fail
      refine region_pi [(0, true), (1, true), (2, true), (3, true), (4, true), (5, true), (7, true), (8, true), (9, true), (10, true), (6, false), (11, false), (12, true)] (by kernel_rfl) (by kernel_rfl) ?_
      simp only [opsPi, List.filterMap_cons, List.filterMap_nil, List.getElem?_toArray, List.getElem?_cons_zero, List.getElem?_cons_succ, Option.map_some]
      repeat (refine pi_take (v := _) rfl (fun W hW => by go_simp <;> exact rfl) ?_; simp only [Act.put, List.setIfInBounds_toArray, List.set_cons_zero, List.set_cons_succ])
      refine pi_run ?_
      go_wp2_with fail
      refine (put_any wr.drew A1 N c1 p U HN.out (by omega) HR1.out.drew (var.vput_len10 HU.out)).mono ?_
      rintro e w3 ⟨v3, rfl, hown3, hb3⟩
      rw [← HM2.out] at hown3
      obtain ⟨A3, c3, rfl, hc3, -⟩ := own_form hown3
      have HR3 := hide (Row.of_own hown3)
      clear hown3
      go_wp2_with fail
      refine ⟨hb3, ?_⟩
      repeat (refine pi_take (v := _) rfl (fun W hW => by go_simp <;> exact rfl) ?_; simp only [Act.put, List.setIfInBounds_toArray, List.set_cons_zero, List.set_cons_succ])
      refine pi_run ?_
      go_wp2_with fail
      refine (putint_any w3 A3 M c3 (p ++ var.vput U) x true HMl.out (by omega) HR3.out HX.out).mono ?_
      rintro e w4 ⟨v4, rfl, hown4, hb4⟩
      rw [HST.out] at hown4
      go_wp2_with fail
      refine ⟨hb4, ?_⟩
      repeat (refine pi_take (v := _) rfl (fun W hW => by go_simp <;> exact rfl) ?_; simp only [Act.put, List.setIfInBounds_toArray, List.set_cons_zero, List.set_cons_succ])
      refine pi_done ?_
      have hE := HE.out
      have hEl : (enc (l2.take (k + 1))).length = M + (var.vput (zig x)).length := by rw [hE, List.length_append, HMl.out]
      have hwr : wr.heap.size ≤ w3.heap.size := hb3.size
      have HO := hide (show w4.ownsRow w.heap.size 5 1 v4 (enc (l2.take (k + 1))).length (u8s (enc (l2.take (k + 1)))) from by rw [hEl, hE]; exact own_more hown4 (by omega))
      have HB4 := hide (show Below w.heap.size w w4 from HB.out.trans ((Below.mono (below_undrew hb3) hz).trans (Below.mono hb4 (by omega))))
      clear hown4 hE hEl hb3 hb4 hwr
      go_wp2_with fail
      exact ⟨⟨k + 1, by omega, by go_num, HO.out, HB4.out⟩, by simp [intOf]; omega⟩
    · obtain rfl : k = m := by omega
      have hE0 : l2.take k = l2 := List.take_of_length_le (by rw [HL.out]; exact Nat.le_refl _)
      rw [hE0] at hown
      clear hE0
      go_wp2_with fail
      go_loopw [4, 7] (fun bv i wr => ∃ j : Nat, j ≤ k ∧ i = .int .i64 j ∧ wr.ownsRow w.heap.size 5 1 bv (enc (l2.drop j)).length (u8s (enc (l2.drop j))) ∧ Below w.heap.size w wr) (fun _ i _ => k - (intOf i).toNat)
      case atStart => exact ⟨0, Nat.zero_le _, rfl, hown, hb⟩
      case round =>
        clear hown hb hz
        obtain ⟨j, hj, rfl, hown, hb⟩ := hrel
        have hz := hb.size
        by_cases hjk : j < k
        · obtain ⟨x, hx⟩ : ∃ x, l2[j]? = some x := ⟨_, List.getElem?_eq_getElem (by rw [HL.out]; exact hjk)⟩
          have HX := hide (HI.out x (List.mem_of_getElem? hx))
          obtain ⟨bA, oA, rfl, hbA, hcA⟩ := hr2.at_ (ints_at hx)
          have hle : (enc (l2.drop j)).length ≤ 1200 := by
            have := enc_len (l := l2.drop j) (fun y hy => HI.out y (List.mem_of_mem_drop hy))
            have h2 : (l2.drop j).length ≤ 60 := by rw [List.length_drop, HL.out]; omega
            omega
          obtain ⟨t1, t2, t3⟩ := take_enc hx HX.out
          obtain ⟨i1, i2, i3⟩ := takeint_enc HX.out (enc (l2.drop (j + 1)))
          have hw := unum_wrap x
          have T1 := hide t1
          have T2 := hide t2
          have T3 := hide t3
          have I1 := hide i1
          have I2 := hide i2
          have I3 := hide i3
          obtain ⟨R, hR⟩ : ∃ R, R = var.vput (zig x) ++ enc (l2.drop (j + 1)) := ⟨_, rfl⟩
          rw [← hR] at T2 I1 I2 I3
          have HR8 := hide (show ∀ c ∈ R, c < 256 from fun c hc => by rw [hR] at hc; exact (List.mem_append.1 hc).elim (var.vput8 _ c) (enc8 _ c))
          have hRl : R.length ≤ 1300 := by
            have h1 := enc_len (l := l2.drop (j + 1)) (fun y hy => HI.out y (List.mem_of_mem_drop hy))
            have h2 : (l2.drop (j + 1)).length ≤ 60 := by rw [List.length_drop, HL.out]; omega
            have h3 := var.vput_len10 (zig_s64 HX.out)
            rw [hR, List.length_append]
            omega
          obtain ⟨A1, c1, rfl, hc1, hc1'⟩ := own_form hown
          have HR1 := hide (Row.of_own hown)
          have H8 := hide (enc8 (l2.drop j))
          obtain ⟨p, hp⟩ : ∃ p, p = enc (l2.drop j) := ⟨_, rfl⟩
          rw [← hp] at HR1 H8 T1 T2 T3 hle hc1 ⊢
          obtain ⟨N, hN⟩ : ∃ N, N = p.length := ⟨_, rfl⟩
          rw [← hN] at hle hc1 ⊢
          have HN := hide hN.symm
          obtain ⟨U, hU⟩ : ∃ U, U = snum x false := ⟨_, rfl⟩
          rw [← hU] at hw T1
          have hjn : j < n := by omega
          have HB := hide hb
          clear hown hx hN hp hU t1 t2 t3 i1 i2 i3 hR hb
          go_wp2_with fail
          refine (take_any wr A1 N c1 p HN.out (by omega) hc1 hc1' H8.out HR1.out).mono ?_
          rintro e w3 ⟨v3, rfl, hown3, hb3⟩
          rw [T2.out] at hown3
          rw [T1.out, T3.out]
          obtain ⟨A3, c3, rfl, hc3, hc3'⟩ := own_form hown3
          have HR3 := hide (Row.of_own hown3)
          clear hown3
          have hz3 := hb3.size
          go_wp2_with fail
          refine (takeint_any w3 A3 R.length c3 R true rfl (by omega) hc3 hc3' HR8.out HR3.out).mono ?_
          rintro e w4 ⟨v4, rfl, hown4, hb4⟩
          rw [I2.out] at hown4
          rw [I1.out, I3.out]
          have HB4 := hide (show Below w.heap.size w w4 from HB.out.trans ((Below.mono hb3 hz).trans (Below.mono hb4 (by omega))))
          have HO := hide (own_more hown4 (show w.heap.size ≤ w3.heap.size by omega))
          have hload : w4.cell? ⟨bA, oA + j, none⟩ = some (.int .i64 x) := by rw [HB4.out.cell (by simpa using hbA)]; exact hcA
          clear hown4 hb3 hb4 hcA hr2
          go_wp2_with fail
          exact ⟨⟨j + 1, by omega, by go_num, HO.out, HB4.out⟩, by simp [intOf]; omega⟩
        · obtain rfl : j = k := by omega
          have hnil : enc (l2.drop j) = [] := by rw [← HL.out]; exact enc_nil
          rw [hnil] at hown
          obtain ⟨A1, c1, rfl, -, -⟩ := own_form hown
          have HB := hide hb
          clear hown hnil hb
          go_wp2_with fail
          go_ret
          exact ⟨rfl, HB.out⟩
#print axioms back_walk
end Go.Proofs.Ytkhdkfpgalcehaa
