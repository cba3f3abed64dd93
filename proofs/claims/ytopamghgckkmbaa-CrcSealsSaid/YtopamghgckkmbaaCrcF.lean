/-
  The laws on seals, walked: seals are as the document says; what was sealed is opened as it was.
-/
import Derived.Test.YtopamghgckkmbaaCrcE
namespace Go.Proofs.Ytopamghgckkmbaa
open Go.RowKit
set_option linter.unusedVariables false

/-- What opening hands back, and the error's number. -/
def opened (l : List Nat) : List Nat := (opens l).getD []
def openErr (l : List Nat) : Int := if (opens l).isNone then 2 else 0
theorem open_any (w : World) (b : Nat) (A : Option Addr) (n c : Nat) (l : List Nat) (hl : l.length = n) (hn : n ≤ 1000) (hnc : n ≤ c) (hc : c ≤ maxLen) (h8 : ∀ x ∈ l, x < 256) (hb : b < w.heap.size) (ht : HasTab w b) (hr : Row w w.heap.size A (u8s l)) :
    Calls Try.prog 13 #[.pointer (some ⟨b, 0, none⟩), .slice A n c] w (Gives2 w.heap.size 5 1 (opened l).length (u8s (opened l)) (.int .i64 (openErr l)) w) := by
  unfold opened openErr
  cases ho : opens l with
  | none => exact open_none_any w b A n c l hl hn hnc hc h8 hb ht hr ho
  | some l2 => exact open_some_any w b A n c l hl hn hnc hc h8 hb ht hr l2 ho
theorem refopen_any (w : World) (A : Option Addr) (n c : Nat) (l : List Nat) (hl : l.length = n) (hn : n ≤ 1000) (hnc : n ≤ c) (hc : c ≤ maxLen) (h8 : ∀ x ∈ l, x < 256) (hr : Row w w.heap.size A (u8s l)) :
    Calls Try.prog 14 #[.slice A n c] w (Gives2 w.heap.size 5 1 (opened l).length (u8s (opened l)) (.int .i64 (openErr l)) w) := by
  unfold opened openErr
  cases ho : opens l with
  | none => exact refopen_none_any w A n c l hl hn hnc hc h8 hr ho
  | some l2 => exact refopen_some_any w A n c l hl hn hnc hc h8 hr l2 ho
theorem opened8 {l : List Nat} (h8 : ∀ x ∈ l, x < 256) : ∀ x ∈ opened l, x < 256 := by
  unfold opened opens
  split
  · exact take8 h8 _
  · simp
theorem opens_seal (l : List Nat) : opens (crc.seal_ l) = some l := by
  have e : (crc.seal_ l).length - 4 = l.length := by rw [crc.seal_length]; omega
  unfold opens
  rw [e]
  have e2 : (crc.seal_ l).take l.length = l := by simp [crc.seal_]
  rw [e2, if_pos ⟨by rw [crc.seal_length]; omega, rfl⟩]
theorem opens_nil : opens [] = none := by simp [opens]

set_option maxRecDepth 100000 in
set_option maxHeartbeats 4000000 in
theorem seals_walk (w : World) (A : Option Addr) (n c : Nat) (l : List Nat) (A' : Option Addr) (n' c' : Nat) (l' : List Nat) (hl : l.length = n) (hnc : n ≤ c) (hc : c ≤ maxLen) (h8 : ∀ x ∈ l, x < 256) (hr : Row w w.heap.size A (u8s l))
    (hl' : l'.length = n') (hnc' : n' ≤ c') (hc' : c' ≤ maxLen) (h8' : ∀ x ∈ l', x < 256) (hr' : Row w w.heap.size A' (u8s l')) :
    Calls Try.prog 4 #[.slice A n c, .slice A' n' c'] w (Yes w) := by
  have hz := zero_tab
  have H8 := hide (take8 h8 400)
  have HL := hide (show (l.take 400).length = min n 400 by rw [List.length_take, hl]; omega)
  have hr2 := hr.take 400
  rw [u8s_take] at hr2
  generalize l.take 400 = l2 at H8 HL hr2
  have H8' := hide (take8 h8' 400)
  have HL' := hide (show (l'.take 400).length = min n' 400 by rw [List.length_take, hl']; omega)
  have hr2' := hr'.take 400
  rw [u8s_take] at hr2'
  generalize l'.take 400 = l2' at H8' HL' hr2'
  clear h8 hl hr h8' hl' hr'
  have hm1 : min n 400 ≤ 400 := Nat.min_le_right _ _
  have hm2 : min n 400 ≤ c := by omega
  have hm3 : min n' 400 ≤ 400 := Nat.min_le_right _ _
  have hm4 : min n' 400 ≤ c' := by omega
  go_enter Try.func4, Try.ntmps4
  go_wp2_with fail
  refine (shown_any _).mono ?_
  rintro e w1 ⟨rfl, hb1⟩
  go_wp2_with fail
  refine (few_any _ A n c hnc hc).mono ?_
  rintro e w' ⟨rfl, rfl⟩
  go_wp2_with fail
  refine (few_any _ A' n' c' hnc' hc').mono ?_
  rintro e w' ⟨rfl, rfl⟩
  generalize min n 400 = m at HL hm1 hm2 ⊢
  generalize min n' 400 = m' at HL' hm3 hm4 ⊢
  go_wp2_with (first
    | (go_at_call 9; refine (new_any _).mono ?_; rintro e w2 ⟨rfl, hb2⟩)
    | (refine wpList_store_row rfl 27 _ _ rfl w2.heap.size (u32s tab).toArray rfl rfl 27 zeros (heap_alloc_new _ _) info_tab (by simp [u32s, tab, zeros, part]) u32s_one ?_; obtain ⟨W, hW, ht1, hb3, hs2, hs3⟩ := tab_world (hb1.trans (hb2.mono hb1.size)); rw [hW]; obtain ⟨b, hb⟩ : ∃ b, b = w2.heap.size := ⟨_, rfl⟩; rw [← hb] at ht1 hs2 ⊢; clear hb hW hb2 hs3; have HT := hide ht1; clear ht1)
    | (at_builtin; refine wpList_append_row _ rfl (.tmp 18) (.tmp 19) 22 rfl W.heap.size 5 info_u8 Try.underlying22 rfl (by omega) _ 0 [] rfl (World.ownsRow_lit _ #[] 0 (Nat.le_refl _) (by simp) rfl) w.heap.size A' m' c' (u8s l2') rfl (by rw [u8s_len, HL'.out, Nat.mul_one]) ((hr2'.below hb3 (Nat.le_refl _)).alloc hb3.size _) u8s_one (by simp only [maxLen]; omega) (by omega) (by simp) ?_; intro v4 w4 hown4 hg4 hat4; rw [Nat.zero_add, List.nil_append] at hown4; obtain ⟨A4, c4, rfl, hc4, hc4'⟩ := own_form hown4; have hl4 : Below W.heap.size W w4 := ((Below.refl _ _).alloc (Nat.le_refl _) _).grown hg4 (by simp) (fun g hg => blk_ge hg (Nat.le_refl _)); have HT4 := hide (hasTab_below HT.out hl4 hs2); have hs4 : b < w4.heap.size := Nat.lt_of_lt_of_le hs2 hl4.size)
    | (go_at_call 13; refine (open_any _ b A4 m' c4 l2' HL'.out (by omega) hc4 hc4' H8'.out hs4 HT4.out (Row.of_own hown4)).mono ?_; rintro e w5 ⟨v5, rfl, hown5, hb5⟩; obtain ⟨A5, c5, rfl, hc5, -⟩ := own_form hown5)
    | (go_at_call 14; refine (refopen_any _ A' m' c' l2' HL'.out (by omega) hm4 hc' H8'.out (((hr2'.below hb3 (Nat.le_refl _)).below hl4 hb3.size).below hb5 (Nat.le_trans hb3.size hl4.size) |>.more (Nat.le_trans hb3.size (Nat.le_trans hl4.size hb5.size)))).mono ?_; rintro e w6 ⟨v6, rfl, hown6, hb6⟩; obtain ⟨A6, c6, rfl, hc6, -⟩ := own_form hown6))
  have z3 := hb3.size
  have z4 := hl4.size
  have z5 := hb5.size
  have z6 := hb6.size
  have L46 : Le w4 w6 := Le.trans hb5 hb6
  have L6 : Le w w6 := Le.trans hb3 (Le.trans hl4 L46)
  have hr9 : Row w6 w6.heap.size A (u8s l2) := (L6.row hr2 (Nat.le_refl _)).more L6.size
  have hr9' : Row w6 w6.heap.size A' (u8s l2') := (L6.row hr2' (Nat.le_refl _)).more L6.size
  have hr4 : Row w6 w6.heap.size A4 (u8s l2') := (L46.row (Row.of_own hown4) (Nat.le_refl _)).more L46.size
  have hr5 : Row w6 w6.heap.size A5 (u8s (opened l2')) := (Le.row hb6 (Row.of_own hown5) (Nat.le_refl _)).more z6
  have hr6 : Row w6 w6.heap.size A6 (u8s (opened l2')) := Row.of_own hown6
  have HT6 := hide (hasTab_below HT4.out L46 hs4)
  have hs6 : b < w6.heap.size := by omega
  have HO := hide (opened8 H8'.out)
  obtain ⟨O, hO⟩ : ∃ O, O = opened l2' := ⟨_, rfl⟩
  rw [← hO] at hr5 hr6 HO ⊢
  clear hown4 hown5 hown6 hb1 hb3 hl4 hb5 hb6 hg4 hat4 hr2 hr2' HT HT4 hs2 hs4 z3 z4 z5 z6 hO L46
  refine region_pi [(0, true), (1, true), (2, true), (5, true), (3, false), (4, true), (6, false), (7, true), (8, true), (9, true), (10, true), (11, true), (12, true), (13, true), (14, true), (15, true), (16, true), (17, true), (18, true), (19, true), (20, true), (21, true), (22, true), (23, true), (24, true), (25, true), (26, true), (27, true), (28, true), (29, true)] (by kernel_rfl) (by kernel_rfl) ?_
  simp only [opsPi, List.filterMap_cons, List.filterMap_nil, List.getElem?_toArray, List.getElem?_cons_zero, List.getElem?_cons_succ, Option.map_some]
  repeat (refine pi_take (v := _) rfl (fun W hW => by go_simp <;> exact rfl) ?_; simp only [Act.put, List.setIfInBounds_toArray, List.set_cons_zero, List.set_cons_succ])
  refine pi_run ?_
  go_wp2_with fail
  refine (seal_any w6.drew b A m c l2 HL.out (by omega) H8.out hs6 (hasTab_below HT6.out (Below.refl w6.heap.size w6).drew hs6) hr9.drew).mono ?_
  rintro e w7 ⟨v7, rfl, hown7, hb7⟩
  go_wp2_with fail
  refine ⟨hb7, ?_⟩
  obtain ⟨A7, c7, rfl, hc7, -⟩ := own_form hown7
  have z7 := hb7.size
  have q7 : ∀ W, Le w7 W → (convert 22 9 (.slice A7 (m + 4) c7)).run Try.prog W = .ok (.string (str (crc.seal_ l2))) W := fun W hW => conv8 W w7.heap.size A7 (m + 4) c7 _ (by rw [crc.seal_length, HL.out]) (seal8 H8.out) (hW.row (Row.of_own hown7) (Nat.le_refl _))
  repeat (refine pi_take (v := _) rfl (fun W hW => by go_simp <;> exact rfl) ?_; simp only [Act.put, List.setIfInBounds_toArray, List.set_cons_zero, List.set_cons_succ])
  refine pi_run ?_
  go_wp2_with (go_at_call 16; refine (refseal_any _ A m c l2 HL.out (by omega) H8.out ((Le.row hb7 hr9.drew (Nat.le_refl _)).more z7)).mono ?_; rintro e w8 ⟨v8, rfl, hown8, hb8⟩)
  refine ⟨hb8, ?_⟩
  obtain ⟨A8, c8, rfl, hc8, -⟩ := own_form hown8
  have z8 := hb8.size
  have L8 : Le w6 w8 := Le.trans (below_undrew hb7) hb8
  clear q7
  have q8 : ∀ W, Le w8 W → (convert 22 9 (.slice A8 (m + 4) c8)).run Try.prog W = .ok (.string (str (crc.seal_ l2))) W := fun W hW => conv8 W w8.heap.size A8 (m + 4) c8 _ (by rw [crc.seal_length, HL.out]) (seal8 H8.out) (hW.row (Row.of_own hown8) (Nat.le_refl _))
  have q5 : ∀ W, Le w8 W → (convert 22 9 (.slice A5 O.length c5)).run Try.prog W = .ok (.string (str O)) W := fun W hW => conv8 W w6.heap.size A5 _ c5 _ rfl HO.out ((Le.trans L8 hW).row hr5 (Nat.le_refl _))
  have q6 : ∀ W, Le w8 W → (convert 22 9 (.slice A6 O.length c6)).run Try.prog W = .ok (.string (str O)) W := fun W hW => conv8 W w6.heap.size A6 _ c6 _ rfl HO.out ((Le.trans L8 hW).row hr6 (Nat.le_refl _))
  have q4 : ∀ W, Le w8 W → (convert 22 9 (.slice A4 m' c4)).run Try.prog W = .ok (.string (str l2')) W := fun W hW => conv8 W w6.heap.size A4 _ c4 _ HL'.out H8'.out ((Le.trans L8 hW).row hr4 (Nat.le_refl _))
  have q9 : ∀ W, Le w8 W → (convert 22 9 (.slice A' m' c')).run Try.prog W = .ok (.string (str l2')) W := fun W hW => conv8 W w6.heap.size A' _ c' _ HL'.out H8'.out ((Le.trans L8 hW).row hr9' (Nat.le_refl _))
  repeat (refine pi_take (v := _) rfl (fun W hW => by go_simp <;> exact rfl) ?_; simp only [Act.put, List.setIfInBounds_toArray, List.set_cons_zero, List.set_cons_succ])
  refine pi_done ?_
  go_wp2_with fail
  go_ret
  exact ⟨rfl, Le.trans L6 L8⟩
#print axioms seals_walk
end Go.Proofs.Ytopamghgckkmbaa
