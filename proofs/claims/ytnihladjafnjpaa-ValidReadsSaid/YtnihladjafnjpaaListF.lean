/-
  Lists of ids, walked: whether two are the same; what is wrong with one, by the program and by the document.
-/
import Derived.Test.YtnihladjafnjpaaListD
import Derived.Test.YtnihladjafnjpaaListE
namespace Go.Proofs.Ytnihladjafnjpaa
open Go.RowKit
set_option linter.unusedVariables false

set_option maxHeartbeats 2000000 in
theorem same_any (w : World) (H : Int) (A1 A2 : Option Addr) (n c1 c2 : Nat) (l : List Int) (hl : l.length = n) (hn : n ≤ 1000000000) (hr1 : Row w w.heap.size A1 (ints l)) (hr2 : Row w w.heap.size A2 (ints l)) :
    Calls Try.prog 9 #[.agg #[.int .i64 H, .slice A1 n c1], .agg #[.int .i64 H, .slice A2 n c2]] w fun e w' => e = .returned (.bool true) ∧ Below w.heap.size w w' := by
  have HL := hide hl
  clear hl
  obtain ⟨W, hW, hbox0, hbox1, hb, hz⟩ := two_boxes w #[.int .i64 H, .slice A1 n c1] #[.int .i64 H, .slice A2 n c2] 24
  have HB := hide hb
  have HW := hide hW
  have c00 := hbox0.cell 0 (.int .i64 H) rfl
  have c01 := hbox0.cell 1 (.slice A1 n c1) rfl
  have c10 := hbox1.cell 0 (.int .i64 H) rfl
  have c11 := hbox1.cell 1 (.slice A2 n c2) rfl
  clear hb hW hbox0 hbox1
  go_enter Try.func9, Try.ntmps9
  go_wp2_with fail
  rw [HW.out]
  go_loopw [5] (fun i wr => ∃ k q : Nat, k ≤ n ∧ i = .int .i64 k ∧ wr = W.drewN q) (fun i _ => n - (intOf i).toNat)
  case atStart => exact ⟨0, 0, Nat.zero_le _, rfl, rfl⟩
  case round =>
    obtain ⟨k, q, hk, rfl, rfl⟩ := hrel
    by_cases hkn : k < n
    · obtain ⟨x, hx⟩ : ∃ x, l[k]? = some x := ⟨_, List.getElem?_eq_getElem (by rw [HL.out]; exact hkn)⟩
      obtain ⟨b1, o1, rfl, hb1, hx1⟩ := hr1.at_ (ints_at hx)
      obtain ⟨b2, o2, rfl, hb2, hx2⟩ := hr2.at_ (ints_at hx)
      have hy1 : W.cell? ⟨b1, o1 + k, none⟩ = some (.int .i64 x) := (HB.out.cell (p := ⟨b1, o1 + k, none⟩) hb1).trans hx1
      have hy2 : W.cell? ⟨b2, o2 + k, none⟩ = some (.int .i64 x) := (HB.out.cell (p := ⟨b2, o2 + k, none⟩) hb2).trans hx2
      obtain ⟨V, hV⟩ : ∃ V, (W.drewN q).drew = V := ⟨_, rfl⟩
      have HV := hide hV
      clear hV hx hx1 hx2
      have g0 := later HV.out (show w.heap.size < W.heap.size by omega) c01
      have g1 := later HV.out (show w.heap.size + 1 < W.heap.size by omega) c11
      have g2 := later HV.out (show b1 < W.heap.size by omega) hy1
      have g3 := later HV.out (show b2 < W.heap.size by omega) hy2
      go_wp2_with fail
      refine region_pi [(0, true), (1, true), (2, true), (3, true), (4, true), (5, true), (6, true), (7, true), (8, true), (9, true), (10, true)] (by kernel_rfl) (by kernel_rfl) ?_
      simp only [opsPi, List.filterMap_cons, List.filterMap_nil, List.getElem?_toArray, List.getElem?_cons_zero, List.getElem?_cons_succ, Option.map_some]
      rw [HV.out]
      repeat (first | (refine pi_take (v := _) rfl (fun W hW => by go_simp <;> exact rfl) ?_; simp only [Act.put, List.setIfInBounds_toArray, List.set_cons_zero, List.set_cons_succ]) | (refine pi_skip rfl ?_; simp only [Act.put, List.setIfInBounds_toArray, List.set_cons_zero, List.set_cons_succ]))
      refine pi_done ?_
      rw [← HV.out, World.drew_drewN]
      go_wp2_with fail
      exact ⟨⟨k + 1, _, by omega, by go_num, rfl⟩, by simp [intOf]; omega⟩
    · obtain rfl : k = n := by omega
      go_wp2_with fail
      go_ret
      exact ⟨rfl, below_drewN HB.out _⟩

/-- What the check asks of each id. -/
theorem holds_any (w : World) (b : Nat) (H : Int) (A : Option Addr) (n c : Nat) (l : List Int) (id s : Int) (hl : l.length = n) (hn : n ≤ 1000000000) (hr : Row w w.heap.size A (ints l))
    (h0 : w.cell? ⟨b, 0, none⟩ = some (.int .i64 H)) (h1 : w.cell? ⟨b, 1, none⟩ = some (.slice A n c)) :
    Calls Try.prog 25 #[.int .i64 id, .int .i64 s, .pointer (some ⟨b, 0, none⟩)] w fun e w' => e = .returned (.bool (okI H l id s)) ∧ Below w.heap.size w w' := by
  by_cases hs : s = 2
  · subst hs
    have HD := hide (show okI H l id 2 = true by simp [okI])
    go_enter Try.func25, Try.ntmps25
    go_wp2_with fail
    go_ret
    exact ⟨ret_bool HD.out.symm, Below.refl _ _⟩
  · have HD := hide (show okI H l id s = !has H l id by simp [okI, hs])
    have HL := hide hl
    clear hl
    go_enter Try.func25, Try.ntmps25
    go_wp2_with fail
    refine (has_any _ H A n c l id HL.out hn hr).mono ?_
    rintro e w' ⟨rfl, hb⟩
    have HB := hide hb
    clear hb
    generalize has H l id = B at *
    go_wp2_with fail
    go_ret
    exact ⟨ret_bool (by rw [HD.out]; simp [hs]), HB.out⟩

theorem run_enter {P : Program} {f : FuncId} {fn : Func} {c : Code} (hf : P.funcs[f]? = some fn) (hname : (fn.name == "runtime.NumGoroutine") = false) (hb : fn.body = some c) (args : Array Value) (w : World) :
    (callFunc f args).run P w = .ok (.enter f args) w := by
  have h1 : fn.name ≠ "runtime.NumGoroutine" := by simpa using hname
  simp [callFunc, hf, h1, hb]
theorem enterHolds : ∀ args W, (callFunc 25 args).run Try.prog W = .ok (.enter 25 args) W :=
  fun args W => run_enter Try.func25 (by decide) rfl args W

set_option maxHeartbeats 2000000 in
theorem check_any (w : World) (H : Int) (A B : Option Addr) (n c m d : Nat) (l s : List Int) (hl : l.length = n) (hn : n ≤ 1000000000) (hs : s.length = m) (hm : m ≤ 1000000000) (hr : Row w w.heap.size A (ints l)) (hrs : Row w w.heap.size B (ints s)) :
    Calls Try.prog 16 #[.agg #[.int .i64 H, .slice A n c], .slice B m d] w fun e w' => e = .returned (.int .i64 (checkI H l s)) ∧ Below w.heap.size w w' := by
  have HL := hide hl
  have HS := hide hs
  clear hl hs
  obtain ⟨W, hW, hc0, hc1, hr2, hb, hz⟩ := box_world w H A n c l hr
  have HB := hide hb
  have HW := hide hW
  clear hb hW
  go_enter Try.func16, Try.ntmps16
  go_wp2_with fail
  rw [HW.out]
  refine (may_any W H A n c l HL.out hn (hr2.more (by omega))).mono ?_
  rintro e w1 ⟨rfl, hb1⟩
  have L1 : Le w w1 := HB.out.trans (hb1.mono (by omega))
  have e0 : w1.cell? ⟨w.heap.size, 0, none⟩ = some (.int .i64 H) := (hb1.cell (p := ⟨w.heap.size, 0, none⟩) hz).trans hc0
  have e1 : w1.cell? ⟨w.heap.size, 1, none⟩ = some (.slice A n c) := (hb1.cell (p := ⟨w.heap.size, 1, none⟩) hz).trans hc1
  have z1 := hb1.size
  have HL1 := hide L1
  clear hb1 L1 hc0 hc1
  cases hmay : may H l
  · have HC := hide (check_may (states := s) hmay)
    clear hmay
    go_wp2_with fail
    go_ret
    exact ⟨ret_int HC.out.symm, HL1.out⟩
  · by_cases hh : (m : Int) < H
    · have HC := hide (check_high (H := H) (l := l) (states := s) (by rw [HS.out]; exact hh))
      clear hmay
      go_wp2_with fail
      go_ret
      exact ⟨ret_int HC.out.symm, HL1.out⟩
    · have hH := enterHolds
      go_wp2_with fail
      refine (all_any w1 _ _ (okI H l) B m d s HS.out hm ((HL1.out.row hrs (Nat.le_refl _)).more HL1.out.size) hH (fun W' hW' id st => ?_)).mono ?_
      · exact holds_any W' w.heap.size H A n c l id st HL.out hn (((HL1.out.trans hW').row hr (Nat.le_refl _)).more (HL1.out.trans hW').size) ((hW'.cell (p := ⟨w.heap.size, 0, none⟩) (by show w.heap.size < w1.heap.size; omega)).trans e0) ((hW'.cell (p := ⟨w.heap.size, 1, none⟩) (by show w.heap.size < w1.heap.size; omega)).trans e1)
      rintro e w2 ⟨rfl, hb2⟩
      have HL2 := hide (HL1.out.trans hb2)
      clear hb2
      cases hall : allI (okI H l) s
      · have HC := hide (check_all (H := H) (l := l) (states := s) hall)
        clear hall hmay
        go_wp2_with fail
        go_ret
        exact ⟨ret_int HC.out.symm, HL2.out⟩
      · have HC := hide (check_ok hmay (show H ≤ (s.length : Int) by rw [HS.out]; omega) hall)
        clear hall hmay
        go_wp2_with fail
        go_ret
        exact ⟨ret_int HC.out.symm, HL2.out⟩
#print axioms check_any

set_option maxHeartbeats 2000000 in
theorem refcheck_any (w : World) (H : Int) (A B : Option Addr) (n c m d : Nat) (l s : List Int) (hl : l.length = n) (hn : n ≤ 1000000000) (hnc : n ≤ c) (hs : s.length = m) (hm : m ≤ 1000000000) (hr : Row w w.heap.size A (ints l)) (hrs : Row w w.heap.size B (ints s)) :
    Calls Try.prog 17 #[.agg #[.int .i64 H, .slice A n c], .slice B m d] w fun e w' => e = .returned (.int .i64 (checkI H l s)) ∧ Below w.heap.size w w' := by
  have HL := hide hl
  have HS := hide hs
  clear hl hs
  obtain ⟨W, hW, hc0, hc1, hr2, hb, hz⟩ := box_world w H A n c l hr
  have HB := hide hb
  have HW := hide hW
  clear hb hW
  go_enter Try.func17, Try.ntmps17
  go_wp2_with fail
  rw [HW.out]
  refine (refmay_any W H A n c l HL.out hn hnc (hr2.more (by omega))).mono ?_
  rintro e w1 ⟨rfl, hb1⟩
  have L1 : Le w w1 := HB.out.trans (hb1.mono (by omega))
  have e0 : w1.cell? ⟨w.heap.size, 0, none⟩ = some (.int .i64 H) := (hb1.cell (p := ⟨w.heap.size, 0, none⟩) hz).trans hc0
  have e1 : w1.cell? ⟨w.heap.size, 1, none⟩ = some (.slice A n c) := (hb1.cell (p := ⟨w.heap.size, 1, none⟩) hz).trans hc1
  have z1 := hb1.size
  have HL1 := hide L1
  have E0 := hide e0
  have E1 := hide e1
  clear hb1 L1 hc0 hc1
  cases hmay : may H l
  · have HC := hide (check_may (states := s) hmay)
    clear hmay
    go_wp2_with fail
    go_ret
    exact ⟨ret_int HC.out.symm, HL1.out⟩
  · by_cases hh : (m : Int) < H
    · have HC := hide (check_high (H := H) (l := l) (states := s) (by rw [HS.out]; exact hh))
      clear hmay
      go_wp2_with fail
      go_ret
      exact ⟨ret_int HC.out.symm, HL1.out⟩
    · have HM := hide hmay
      clear hmay
      go_wp2_with fail
      clear e0 e1
      go_loopw [6] (fun i wr => ∃ k : Nat, k ≤ m ∧ i = .int .i64 k ∧ Hid (∀ (j : Nat) (x : Int), j < k → s[j]? = some x → okI H l ((j : Int) + 1) x = true) ∧ Hid (Below w1.heap.size w1 wr)) (fun i _ => m - (intOf i).toNat)
      case atStart => exact ⟨0, Nat.zero_le _, rfl, hide (fun j x hj => by omega), hide (Below.refl _ _)⟩
      case round =>
        obtain ⟨k, hk, rfl, HP, HB2⟩ := hrel
        have e0 : wr.cell? ⟨w.heap.size, 0, none⟩ = some (.int .i64 H) := (HB2.out.cell (p := ⟨w.heap.size, 0, none⟩) (by show w.heap.size < w1.heap.size; omega)).trans E0.out
        have e1 : wr.cell? ⟨w.heap.size, 1, none⟩ = some (.slice A n c) := (HB2.out.cell (p := ⟨w.heap.size, 1, none⟩) (by show w.heap.size < w1.heap.size; omega)).trans E1.out
        have HL2 := hide (show Le w wr from HL1.out.trans HB2.out)
        by_cases hkn : k < m
        · obtain ⟨y, hy⟩ : ∃ y, s[k]? = some y := ⟨_, List.getElem?_eq_getElem (by rw [HS.out]; exact hkn)⟩
          obtain ⟨bA, oA, rfl, hbA, hcA⟩ := (HL2.out.row hrs (Nat.le_refl _)).at_ (ints_at hy)
          obtain ⟨dd, hd⟩ : ∃ d : Int, d = (k : Int) + 1 := ⟨_, rfl⟩
          have hw : IntKind.i64.wrap ((k : Int) + 1) = dd := by rw [IntWalk.i64_in _ (by omega)]; exact hd.symm
          have HD := hide hd
          have HY := hide hy
          clear hd hy
          go_wp2_with fail
          refine (refhas_any wr H A n c l dd HL.out hn ((HL2.out.row hr (Nat.le_refl _)).more HL2.out.size)).mono ?_
          rintro e w2 ⟨rfl, hb2⟩
          have hcB : w2.cell? ⟨bA, oA + k, none⟩ = some (.int .i64 y) := (hb2.cell (p := ⟨bA, oA + k, none⟩) (by have := HL2.out.size; show bA < _; omega)).trans hcA
          have HB3 := hide (HB2.out.trans (hb2.mono HB2.out.size))
          have HL3 := hide (HL1.out.trans HB3.out)
          clear hb2 hcA e0 e1
          by_cases hs2 : y = 2
          · subst hs2
            have HN : Hid (∀ (j : Nat) (x : Int), j < k + 1 → s[j]? = some x → okI H l ((j : Int) + 1) x = true) := fun j x hj hx => by
              by_cases hjk : j < k
              · exact HP.out j x hjk hx
              · obtain rfl : j = k := by omega
                rw [HY.out] at hx
                injection hx with hx
                subst hx
                simp [okI]
            generalize has H l dd = G at *
            cases G
            · go_wp2_with fail
              have hd := HD.out
              exact ⟨⟨k + 1, by omega, by congr 1, HN, HB3⟩, by simp only [intOf]; omega⟩
            · go_wp2_with fail
              have hd := HD.out
              exact ⟨⟨k + 1, by omega, by congr 1, HN, HB3⟩, by simp only [intOf]; omega⟩
          · cases hG : has H l dd
            · have HN : Hid (∀ (j : Nat) (x : Int), j < k + 1 → s[j]? = some x → okI H l ((j : Int) + 1) x = true) := fun j x hj hx => by
                by_cases hjk : j < k
                · exact HP.out j x hjk hx
                · obtain rfl : j = k := by omega
                  rw [← HD.out]
                  simp [okI, hG]
              clear hG
              go_wp2_with fail
              have hd := HD.out
              exact ⟨⟨k + 1, by omega, by congr 1, HN, HB3⟩, by simp only [intOf]; omega⟩
            · have HC := hide (check_all (H := H) (l := l) (states := s) (allI_false HY.out (by rw [← HD.out]; simp [okI, hG, hs2])))
              clear hG
              go_wp2_with fail
              go_ret
              exact ⟨ret_int HC.out.symm, HL3.out⟩
        · obtain rfl : k = m := by omega
          have HE := hide (allI_true (h := okI H l) (l := s) fun j x hx => HP.out j x (by have := (List.getElem?_eq_some_iff.1 hx).1; rw [HS.out] at this; exact this) hx)
          have HC := hide (check_ok HM.out (show H ≤ (s.length : Int) by rw [HS.out]; omega) HE.out)
          go_wp2_with fail
          go_ret
          exact ⟨ret_int HC.out.symm, HL2.out⟩
#print axioms refcheck_any
end Go.Proofs.Ytnihladjafnjpaa
