/-
  The laws on what was sealed, walked: it is opened as it was; with a byte turned, or two side by side, it is none.
-/
import Derived.Test.YtopamghgckkmbaaCrcF
namespace Go.Proofs.Ytopamghgckkmbaa
open Go.RowKit
set_option linter.unusedVariables false

theorem opened_seal (l : List Nat) : opened (crc.seal_ l) = l := by simp [opened, opens_seal]
theorem openErr_seal (l : List Nat) : openErr (crc.seal_ l) = 0 := by simp [openErr, opens_seal]
theorem openErr_nil : openErr [] = 2 := by simp [openErr, opens_nil]

set_option maxRecDepth 100000 in
set_option maxHeartbeats 4000000 in
theorem back_walk (w : World) (A : Option Addr) (n c : Nat) (l : List Nat) (hl : l.length = n) (hnc : n ≤ c) (hc : c ≤ maxLen) (h8 : ∀ x ∈ l, x < 256) (hr : Row w w.heap.size A (u8s l)) :
    Calls Try.prog 5 #[.slice A n c] w (Yes w) := by
  have hz := zero_tab
  have H8 := hide (take8 h8 400)
  have HL := hide (show (l.take 400).length = min n 400 by rw [List.length_take, hl]; omega)
  have hr2 := hr.take 400
  rw [u8s_take] at hr2
  generalize l.take 400 = l2 at H8 HL hr2
  clear h8 hl hr
  have hm1 : min n 400 ≤ 400 := Nat.min_le_right _ _
  have hm2 : min n 400 ≤ c := by omega
  go_enter Try.func5, Try.ntmps5
  go_wp2_with fail
  refine (shown_any _).mono ?_
  rintro e w1 ⟨rfl, hb1⟩
  go_wp2_with fail
  refine (few_any _ A n c hnc hc).mono ?_
  rintro e w' ⟨rfl, rfl⟩
  generalize min n 400 = m at HL hm1 hm2 ⊢
  go_wp2_with (first
    | (go_at_call 9; refine (new_any _).mono ?_; rintro e w2 ⟨rfl, hb2⟩)
    | (refine wpList_store_row rfl 27 _ _ rfl w2.heap.size (u32s tab).toArray rfl rfl 27 zeros (heap_alloc_new _ _) info_tab (by simp [u32s, tab, zeros, part]) u32s_one ?_; obtain ⟨W, hW, ht1, hb3, hs2, hs3⟩ := tab_world (hb1.trans (hb2.mono hb1.size)); rw [hW]; obtain ⟨b, hb⟩ : ∃ b, b = w2.heap.size := ⟨_, rfl⟩; rw [← hb] at ht1 hs2 ⊢; clear hb hW hb2 hs3; have HT := hide ht1; clear ht1)
    | (go_at_call 15; refine (seal_any _ b A m c l2 HL.out (by omega) H8.out hs2 HT.out ((Le.row hb3 hr2 (Nat.le_refl _)).more hb3.size)).mono ?_; rintro e w4 ⟨v4, rfl, hown4, hb4⟩; obtain ⟨A4, c4, rfl, hc4, hc4'⟩ := own_form hown4; have HT4 := hide (hasTab_below HT.out hb4 hs2); have hs4 : b < w4.heap.size := Nat.lt_of_lt_of_le hs2 hb4.size))
  refine (open_any _ b A4 (m + 4) c4 (crc.seal_ l2) (by rw [crc.seal_length, HL.out]) (by omega) hc4 hc4' (seal8 H8.out) hs4 HT4.out (Row.of_own hown4)).mono ?_
  rintro e w5 ⟨v5, rfl, hown5, hb5⟩
  rw [opened_seal] at hown5
  rw [openErr_seal]
  obtain ⟨A5, c5, rfl, hc5, -⟩ := own_form hown5
  have HT5 := hide (hasTab_below HT4.out hb5 hs4)
  have hs5 : b < w5.heap.size := Nat.lt_of_lt_of_le hs4 hb5.size
  go_wp2_with fail
  refine (open_any _ b none 0 0 [] rfl (by omega) (Nat.le_refl _) (by simp) (by simp) hs5 HT5.out Row.none_).mono ?_
  rintro e w6 ⟨v6, rfl, hown6, hb6⟩
  rw [openErr_nil]
  have L6 : Le w w6 := Le.trans hb3 (Le.trans hb4 (Le.trans hb5 hb6))
  have q5 := conv8 w6 w5.heap.size A5 l2.length c5 l2 rfl H8.out (Le.row hb6 (Row.of_own hown5) (Nat.le_refl _))
  have q6 := conv8 w6 w.heap.size A m c l2 HL.out H8.out (Le.row L6 hr2 (Nat.le_refl _))
  clear hown5 hown6 hown4
  go_wp2_with fail
  go_ret
  exact ⟨rfl, L6⟩
#print axioms back_walk

/-- The two bytes that turn. -/
theorem seal_at (l : List Nat) (k : Nat) (hk : k < l.length + 4) : (crc.seal_ l)[k]? = some ((crc.seal_ l).getD k 0) := by
  rw [List.getD_eq_getElem?_getD, List.getElem?_eq_getElem (by rw [crc.seal_length]; exact hk)]; rfl
theorem turned_opens (l : List Nat) (k x y : Nat) (hk : k < l.length + 4) (hx : x < 256) (h0 : x ≠ 0) (hy : y < 256) (s : List Nat)
    (hs : s = (if k + 1 < l.length then ((crc.seal_ l).set k ((crc.seal_ l).getD k 0 ^^^ x)).set (k + 1) ((crc.seal_ l).getD (k + 1) 0 ^^^ y) else (crc.seal_ l).set k ((crc.seal_ l).getD k 0 ^^^ x))) :
    openErr s = 2 := by
  have h := crc.turned l k x y hk hx h0 hy s hs
  have hl : s.length = l.length + 4 := by
    rw [hs]; split <;> simp [crc.seal_length]
  have e : s.length - 4 = l.length := by omega
  have ho : opens s = none := by
    unfold opens
    rw [e, if_neg (fun q => h q.2)]
  unfold openErr
  rw [ho]
  rfl

theorem boxed (w : World) (u v : Value) (t : TypeId) : ∃ W, w.alloc (Obj.cells #[u, v] t) = W ∧ W.cell? ⟨w.heap.size, 0, none⟩ = some u ∧ W.cell? ⟨w.heap.size, 1, none⟩ = some v ∧ Below w.heap.size w W ∧ w.heap.size < W.heap.size :=
  ⟨_, rfl, by rw [cell_of_row _ _ _ _ _ _ (heap_alloc_new _ _)]; rfl, by rw [cell_of_row _ _ _ _ _ _ (heap_alloc_new _ _)]; rfl, (Below.refl _ _).alloc (Nat.le_refl _) _, by simp⟩

theorem set8 {l : List Nat} (h8 : ∀ x ∈ l, x < 256) (k : Nat) {z : Nat} (hz : z < 256) : ∀ x ∈ l.set k z, x < 256 := by
  intro x hx
  rcases List.mem_or_eq_of_mem_set hx with h | h
  · exact h8 x h
  · rw [h]; exact hz

set_option maxRecDepth 100000 in
set_option maxHeartbeats 4000000 in
theorem turned_walk (w : World) (A : Option Addr) (n c : Nat) (l : List Nat) (at_ : Int) (x y : Nat) (hx : x < 256) (hy : y < 256) (hl : l.length = n) (hnc : n ≤ c) (hc : c ≤ maxLen) (h8 : ∀ x ∈ l, x < 256) (hr : Row w w.heap.size A (u8s l)) :
    Calls Try.prog 6 #[.slice A n c, .int .i64 at_, .agg #[.int .u8 (x : Int), .int .u8 (y : Int)]] w (Yes w) := by
  have hz := zero_tab
  have H8 := hide (take8 h8 400)
  have HL := hide (show (l.take 400).length = min n 400 by rw [List.length_take, hl]; omega)
  have hr2 := hr.take 400
  rw [u8s_take] at hr2
  generalize l.take 400 = l2 at H8 HL hr2
  clear h8 hl hr
  have hm1 : min n 400 ≤ 400 := Nat.min_le_right _ _
  have hm2 : min n 400 ≤ c := by omega
  go_enter Try.func6, Try.ntmps6
  go_wp2_with fail
  obtain ⟨W0, hW0, k0, k1, hb0, hs0⟩ := boxed w (.int .u8 (x : Int)) (.int .u8 (y : Int)) 37
  rw [hW0]
  clear hW0
  refine (shown_any _).mono ?_
  rintro e w1 ⟨rfl, hb1'⟩
  have hb1 : Below w.heap.size w w1 := Le.trans hb0 hb1'
  have k0' := (bcell hb1').1 _ 0 hs0 |>.trans k0
  have k1' := (bcell hb1').1 _ 1 hs0 |>.trans k1
  have hs1 : w.heap.size < w1.heap.size := Nat.lt_of_lt_of_le hs0 hb1'.size
  go_wp2_with fail
  refine (few_any _ A n c hnc hc).mono ?_
  rintro e w' ⟨rfl, rfl⟩
  generalize min n 400 = m at HL hm1 hm2 ⊢
  clear k0 k1 hb1'
  have K0 := hide k0'
  have K1 := hide k1'
  clear k0' k1'
  go_wp2_with (first
    | (go_at_call 9; refine (new_any _).mono ?_; rintro e w2 ⟨rfl, hb2⟩; have hz2 := hide ((bcell hb2).1 _ 0 hs1 |>.trans K0.out); have hz3 := hide ((bcell hb2).1 _ 1 hs1 |>.trans K1.out))
    | (refine wpList_store_row rfl 27 _ _ rfl w2.heap.size (u32s tab).toArray rfl rfl 27 zeros (heap_alloc_new _ _) info_tab (by simp [u32s, tab, zeros, part]) u32s_one ?_; have hsb : w.heap.size < w2.heap.size := Nat.lt_of_lt_of_le hs1 hb2.size; obtain ⟨W, hW, ht1, hb3, hs2, hs3⟩ := tab_world (hb1.trans (hb2.mono hb1.size)); have hl2 : Below w2.heap.size w2 W := (by rw [← hW]; exact below_setRow ((Below.refl _ _).alloc (Nat.le_refl _) _) (Nat.le_refl _) _); rw [hW]; have g0 := hide ((bcell hl2).1 _ 0 hsb |>.trans hz2.out); have g1 := hide ((bcell hl2).1 _ 1 hsb |>.trans hz3.out); obtain ⟨b, hb⟩ : ∃ b, b = w2.heap.size := ⟨_, rfl⟩; rw [← hb] at ht1 hs2 hsb ⊢; clear hb hW hb2 hs3 hl2 hz2 hz3; have HT := hide ht1; clear ht1))
  refine (seal_any _ b A m c l2 HL.out (by omega) H8.out hs2 HT.out ((Le.row hb3 hr2 (Nat.le_refl _)).more hb3.size)).mono ?_
  rintro e w4 ⟨v4, rfl, hown4, hb4⟩
  obtain ⟨A4, c4, rfl, hc4, hc4'⟩ := own_form hown4
  obtain ⟨g, cap, hv, _, hlt⟩ := hown4.form (by omega)
  have hA4 : A4 = some ⟨g, 0, none⟩ := by injection hv
  subst hA4
  have hgW : W.heap.size ≤ g := (hown4.lt g rfl).1
  have hw0 : w4.cell? ⟨w.heap.size, 0, none⟩ = some (.int .u8 (x : Int)) := (bcell hb4).1 _ 0 (by omega) |>.trans g0.out
  have hw1 : w4.cell? ⟨w.heap.size, 1, none⟩ = some (.int .u8 (y : Int)) := (bcell hb4).1 _ 1 (by omega) |>.trans g1.out
  have L4 : Le w w4 := Le.trans hb3 hb4
  have HT4 := hide (hasTab_below HT.out hb4 hs2)
  have hs4 : b < w4.heap.size := Nat.lt_of_lt_of_le hs2 hb4.size
  have hz3 := hb3.size
  clear K0 K1 g0 g1 HT hb3 hb4 hb1 hb0 hv
  by_cases ha : at_ < 0
  · go_wp2_with fail
    go_ret
    exact ⟨rfl, L4⟩
  obtain ⟨k, rfl⟩ := Int.eq_ofNat_of_zero_le (Int.not_lt.1 ha)
  clear ha
  by_cases hk : k < m + 4
  · by_cases h0 : x = 0
    · subst h0
      go_wp2_with fail
      go_ret
      exact ⟨rfl, L4⟩
    · have hx0 : ((x : Int) == 0) = false := by simp; omega
      have hsk : ∀ k, k < m + 4 → ∃ s, s < 256 ∧ (crc.seal_ l2).getD k 0 = s ∧ w4.cell? ⟨g, k, none⟩ = some (.int .u8 (s : Int)) := fun k hk => by
        have h := seal_at l2 k (by rw [HL.out]; exact hk)
        refine ⟨_, seal8 H8.out _ (List.mem_of_getElem? h), rfl, ?_⟩
        rw [hown4.cellAt k (by omega)]
        exact u8s_at h
      obtain ⟨s, hs, es, hcell⟩ := hsk k hk
      have hfz := hown4.frozenAt k
      have hxor : bits .xor .u8 (s : Int) (x : Int) = ((s ^^^ x : Nat) : Int) := u8_xor_nat s x hs hx
      have HSK := hide hsk
      have ES := hide es
      clear hsk es
      have hm0 : (0 : Int) ≤ (k : Int) := by omega
      have hm1' : (k : Int) < (m : Int) + 4 := by omega
      by_cases hkm : k + 1 < m
      · obtain ⟨s2, hs2', es2, hcell2⟩ := HSK.out (k + 1) (by omega)
        have ES2 := hide es2
        clear es2
        have hxor2 : bits .xor .u8 (s2 : Int) (y : Int) = ((s2 ^^^ y : Nat) : Int) := u8_xor_nat s2 y hs2' hy
        go_wp2_with fail
        go_region
        obtain ⟨W5, hW5, hown5, hc5, hbel5, hsz5⟩ := stored_world hown4 k (.int .u8 ((s ^^^ x : Nat) : Int))
        rw [hW5]
        have hw1' := (hc5 ⟨w.heap.size, 1, none⟩ (by simp; omega)).trans hw1
        have hfz5 := hown5.frozenAt (k + 1)
        have hcell5 : W5.cell? ⟨g, k + 1, none⟩ = some (.int .u8 (s2 : Int)) := by
          rw [hown5.cellAt (k + 1) (by omega), List.getElem?_set_ne (by omega), ← hown4.cellAt (k + 1) (by omega)]
          exact hcell2
        have HT5 : Hid (HasTab W5 b) := fun j hj => (hc5 ⟨b, j, none⟩ (by simp; omega)).trans (HT4.out j hj)
        have L5 : Below w.heap.size w W5 := hbel5 _ _ (by omega) L4
        rw [u8s_set] at hown5
        have hs5 : b < W5.heap.size := by omega
        clear hW5 hc5 hbel5 hown4 hw0 hw1 hcell hcell2 hfz HSK HT4
        have hsum : IntKind.i64.wrap ((k : Int) + 1) = ((k + 1 : Nat) : Int) := by rw [IntWalk.i64_in _ (by omega)]; rfl
        have hsum0 : (0 : Int) ≤ ((k + 1 : Nat) : Int) := by omega
        have hsum1 : ((k + 1 : Nat) : Int) < (m : Int) + 4 := by omega
        go_wp2_with fail
        go_region
        obtain ⟨W6, hW6, hown6, hc6, hbel6, hsz6⟩ := stored_world hown5 (k + 1) (.int .u8 ((s2 ^^^ y : Nat) : Int))
        rw [hW6]
        have HT6 : Hid (HasTab W6 b) := fun j hj => (hc6 ⟨b, j, none⟩ (by simp; omega)).trans (HT5.out j hj)
        have L6 : Below w.heap.size w W6 := hbel6 _ _ (by omega) L5
        rw [u8s_set] at hown6
        have hs6 : b < W6.heap.size := by omega
        have hE := turned_opens l2 k x y (by rw [HL.out]; omega) hx h0 hy _ rfl
        rw [if_pos (by rw [HL.out]; exact hkm), ES.out, ES2.out] at hE
        have H8'' : ∀ z ∈ ((crc.seal_ l2).set k (s ^^^ x)).set (k + 1) (s2 ^^^ y), z < 256 := set8 (set8 (seal8 H8.out) _ (Nat.xor_lt_two_pow (n := 8) hs hx)) _ (Nat.xor_lt_two_pow (n := 8) hs2' hy)
        have hlen : (((crc.seal_ l2).set k (s ^^^ x)).set (k + 1) (s2 ^^^ y)).length = m + 4 := by simp [crc.seal_length, HL.out]
        generalize ((crc.seal_ l2).set k (s ^^^ x)).set (k + 1) (s2 ^^^ y) = S at hE H8'' hlen hown6
        have H9 := hide H8''
        have HLn := hide hlen
        have HE := hide hE
        clear hW6 hc6 hbel6 hown5 hw1' hcell5 hfz5 hE H8'' hlen HT5
        go_wp2_with (go_at_call 13; refine (open_any _ b _ (m + 4) c4 S HLn.out (by omega) hc4 hc4' H9.out hs6 HT6.out (Row.of_own hown6)).mono ?_; rintro e w7 ⟨v7, rfl, hown7, hb7⟩; rw [HE.out])
        go_ret
        exact ⟨rfl, Le.trans L6 hb7⟩
      · go_wp2_with fail
        go_region
        obtain ⟨W5, hW5, hown5, hc5, hbel5, hsz5⟩ := stored_world hown4 k (.int .u8 ((s ^^^ x : Nat) : Int))
        rw [hW5]
        have HT5 : Hid (HasTab W5 b) := fun j hj => (hc5 ⟨b, j, none⟩ (by simp; omega)).trans (HT4.out j hj)
        have L5 : Below w.heap.size w W5 := hbel5 _ _ (by omega) L4
        rw [u8s_set] at hown5
        have hs5 : b < W5.heap.size := by omega
        have hE := turned_opens l2 k x y (by rw [HL.out]; omega) hx h0 hy _ rfl
        rw [if_neg (by rw [HL.out]; exact hkm), ES.out] at hE
        have H8'' : ∀ z ∈ (crc.seal_ l2).set k (s ^^^ x), z < 256 := set8 (seal8 H8.out) _ (Nat.xor_lt_two_pow (n := 8) hs hx)
        have hlen : ((crc.seal_ l2).set k (s ^^^ x)).length = m + 4 := by simp [crc.seal_length, HL.out]
        generalize (crc.seal_ l2).set k (s ^^^ x) = S at hE H8'' hlen hown5
        have H9 := hide H8''
        have HLn := hide hlen
        have HE := hide hE
        clear hW5 hc5 hbel5 hown4 hw0 hw1 hcell hfz HSK HT4 hE H8'' hlen
        go_wp2_with (go_at_call 13; refine (open_any _ b _ (m + 4) c4 S HLn.out (by omega) hc4 hc4' H9.out hs5 HT5.out (Row.of_own hown5)).mono ?_; rintro e w7 ⟨v7, rfl, hown7, hb7⟩; rw [HE.out])
        go_ret
        exact ⟨rfl, Le.trans L5 hb7⟩
  · go_wp2_with fail
    go_ret
    exact ⟨rfl, L4⟩
#print axioms turned_walk
end Go.Proofs.Ytopamghgckkmbaa
