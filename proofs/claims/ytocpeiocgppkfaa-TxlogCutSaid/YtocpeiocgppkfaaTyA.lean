/-
  Records, walked: one laid down, by the program and by the document.
-/
import Derived.Test.YtocpeiocgppkfaaTyMath
import Derived.Test.YtocpeiocgppkfaaYRefT
namespace Go.Proofs.Ytocpeiocgppkfaa
open Go.RowKit
set_option linter.unusedVariables false

theorem recbox (w : World) (op id : Int) (t : TypeId) : ∃ W, w.alloc (.cells #[.int .i64 op, .int .i64 id] t) = W ∧ Box W w.heap.size #[.int .i64 op, .int .i64 id] t ∧ Le w W ∧ W.heap.size = w.heap.size + 1 :=
  ⟨_, rfl, box_new _ _ _, (Below.refl _ _).alloc (Nat.le_refl _) _, by simp⟩
theorem may_any (w : World) (op id : Int) :
    Calls Try.prog 26 #[.agg #[.int .i64 op, .int .i64 id]] w fun e w' => e = .returned (.bool (decide (ty.May op id))) ∧ Below w.heap.size w w' := by
  obtain ⟨W, hW, hbx, hle, -⟩ := recbox w op id 35
  have b0 := hbx.cell 0 (.int .i64 op) rfl
  have b1 := hbx.cell 1 (.int .i64 id) rfl
  have HW := hide hW
  have HLE := hide hle
  clear hW hle hbx
  by_cases h1 : 1 ≤ op
  · by_cases h2 : op ≤ 3
    · by_cases h3 : 1 ≤ id
      · have hd : decide (id ≤ 1073741824) = decide (ty.May op id) := by unfold ty.May; simp only [h1, h2, h3, true_and]
        have d2 : decide (op ≤ 3) = true := decide_eq_true h2
        go_enter Try.func26, Try.ntmps26
        go_wp2_with fail
        rw [HW.out]
        go_wp2_with fail
        go_ret
        exact ⟨rfl, HLE.out⟩
      · have hd : decide (ty.May op id) = false := decide_eq_false (fun h => h3 h.2.2.1)
        have d2 : decide (op ≤ 3) = true := decide_eq_true h2
        rw [hd]
        go_enter Try.func26, Try.ntmps26
        go_wp2_with fail
        rw [HW.out]
        go_wp2_with fail
        go_ret
        exact ⟨rfl, HLE.out⟩
    · have hd : decide (ty.May op id) = false := decide_eq_false (fun h => h2 h.2.1)
      have d2 : decide (op ≤ 3) = false := decide_eq_false h2
      rw [hd]
      go_enter Try.func26, Try.ntmps26
      go_wp2_with fail
      rw [HW.out]
      go_wp2_with fail
      go_ret
      exact ⟨rfl, HLE.out⟩
  · have hd : decide (ty.May op id) = false := decide_eq_false (fun h => h1 h.1)
    rw [hd]
    go_enter Try.func26, Try.ntmps26
    go_wp2_with fail
    rw [HW.out]
    go_wp2_with fail
    go_ret
    exact ⟨rfl, HLE.out⟩

/-- The two fields of a record, where they lie. -/
def recV (op id : Nat) : List FV := [(⟨1, false, op, []⟩, none, 0), (⟨2, false, id, []⟩, none, 0)]
theorem recV_held {w : World} (op id : Nat) : Held w w.heap.size (recV op id) := by
  intro p hp
  simp [recV] at hp
  rcases hp with rfl | rfl
  · exact ⟨by simp, by simp, Row.none_⟩
  · exact ⟨by simp, by simp, Row.none_⟩
theorem recV_row (w : World) (a b : Nat) (t : TypeId) : ∃ X, w.alloc (.cells #[.int .i64 1, .bool false, .int .u64 (a : Int), .slice none 0 0, .int .i64 2, .bool false, .int .u64 (b : Int), .slice none 0 0] t) = X ∧ Row X X.heap.size (some ⟨w.heap.size, 0, none⟩) (fcs (recV a b)) ∧ Le w X ∧ X.heap.size = w.heap.size + 1 :=
  ⟨_, rfl, (row_new w #[.int .i64 1, .bool false, .int .u64 (a : Int), .slice none 0 0, .int .i64 2, .bool false, .int .u64 (b : Int), .slice none 0 0] t (0, 0)).more (by simp), (Below.refl _ _).alloc (Nat.le_refl _) _, by simp⟩

theorem cat_world (w : World) (A : Option Addr) (n c : Nat) (y : Int) (l : List Nat) (t u : TypeId) (hr : Row w w.heap.size A (u8s l)) : ∃ X, (w.alloc (.cells #[.int .u8 y] t)).alloc (.cells #[.slice (some ⟨w.heap.size, 0, none⟩) 1 1, .slice A n c] u) = X ∧ Le w X ∧
    Row X X.heap.size (some ⟨w.heap.size + 1, 0, none⟩) [.slice (some ⟨w.heap.size, 0, none⟩) 1 1, .slice A n c] ∧ Row X X.heap.size (some ⟨w.heap.size, 0, none⟩) [.int .u8 y] ∧ Row X X.heap.size A (u8s l) ∧ X.heap.size = w.heap.size + 2 := by
  refine ⟨_, rfl, ((Below.refl _ _).alloc (Nat.le_refl _) _).alloc (by simp) _, ?_, ?_, ?_, by simp⟩
  · have h := row_new (w.alloc (.cells #[.int .u8 y] t)) #[.slice (some ⟨w.heap.size, 0, none⟩) 1 1, .slice A n c] u (0, 0)
    have e : (w.alloc (.cells #[.int .u8 y] t)).heap.size = w.heap.size + 1 := by simp
    rw [e] at h
    exact h.more (by simp)
  · exact ((row_one w (.int .u8 y) t (0, 0)).alloc (by simp) _).more (by simp)
  · exact ((hr.alloc (Nat.le_refl _) _).alloc (by simp) _).more (by simp; omega)

set_option maxRecDepth 100000 in
set_option maxHeartbeats 4000000 in
theorem txput_any (w : World) (b : Nat) (op id : Int) (hb : b < w.heap.size) (ht : HasTab w b) :
    Calls Try.prog 18 #[.pointer (some ⟨b, 0, none⟩), .agg #[.int .i64 op, .int .i64 id]] w (Gives2 w.heap.size 5 1 (ty.put op id).1.length (u8s (ty.put op id).1) (.int .i64 (ty.put op id).2) w) := by
  have HTB := hide ht
  clear ht
  obtain ⟨W, hW, hbx, hle, hzW⟩ := recbox w op id 35
  have b0 := hbx.cell 0 (.int .i64 op) rfl
  have b1 := hbx.cell 1 (.int .i64 id) rfl
  have HBX := hide hbx
  have HW := hide hW
  have HLE := hide hle
  clear hW hle hbx
  go_enter Try.func18, Try.ntmps18
  go_wp2_with fail
  rw [HW.out]
  go_wp2_with fail
  refine (may_any W op id).mono ?_
  rintro e w1 ⟨rfl, hb1⟩
  by_cases hm : ty.May op id
  · have hput := hide (ty.put_may hm)
    have hs := ty.may_s64 hm
    obtain ⟨p, rfl⟩ : ∃ p : Nat, op = (p : Int) := ⟨op.toNat, by unfold ty.May at hm; omega⟩
    obtain ⟨i, rfl⟩ : ∃ i : Nat, id = (i : Int) := ⟨id.toNat, by unfold ty.May at hm; omega⟩
    simp only [Int.toNat_natCast] at hs
    have HS1 := hide hs.1
    have HS2 := hide hs.2
    have hwp : IntKind.u64.wrap (p : Int) = (p : Int) := by rw [IntKind.wrap_u64]; have := HS1.out; unfold var.S64 at this; omega
    have hwi : IntKind.u64.wrap (i : Int) = (i : Int) := by rw [IntKind.wrap_u64]; have := HS2.out; unfold var.S64 at this; omega
    rw [decide_eq_true hm]
    have hbx1 := HBX.out.below hb1 HBX.out.lt
    have c0 := hbx1.cell 0 (.int .i64 (p : Int)) rfl
    have c1 := hbx1.cell 1 (.int .i64 (i : Int)) rfl
    have HB1 := hide (show Le W w1 from hb1)
    clear hs hm hbx1 b0 b1 hb1
    go_wp2_with fail
    obtain ⟨X, hX, hrX, hLX, hzX⟩ := recV_row w1 p i 62
    rw [hX]
    clear hX
    refine (wput_any X _ 2 2 (recV p i) (ty.recF p i) rfl rfl (by omega) (fun f hf => (ty.recF_fits HS1.out HS2.out f hf).1) hrX (recV_held p i)).mono ?_
    rintro e w2 ⟨v2, rfl, hown2, hb2⟩
    rw [ty.recF_put HS1.out HS2.out] at hown2 ⊢
    have hbl := ty.body_len HS1.out HS2.out
    have HB8 := hide (ty.body8 HS1.out HS2.out)
    have HSL := hide (ty.sealed_len p i)
    have hlay : ty.lay p i = (ty.sealed p i).length :: ty.sealed p i := rfl
    have hsl : ty.sealed p i = crc.seal_ (ty.body p i) := rfl
    have HLAY := hide hlay
    have HSEAL := hide hsl
    clear hlay hsl
    simp only at hown2 ⊢
    obtain ⟨m, hm⟩ : ∃ m, (ty.body p i).length = m := ⟨_, rfl⟩
    rw [hm] at hown2 hbl HSL
    have HM := hide hm
    obtain ⟨A2, c2, rfl, -, -⟩ := own_form hown2
    have HR2 := hide (Row.of_own hown2)
    have HL2 := hide (show Le w w2 from HLE.out.trans (HB1.out.trans (hLX.trans hb2)))
    have hz2 := HL2.out.size
    have HT2 := hide (hasTab_below HTB.out HL2.out hb)
    clear hm hown2 hb2 hrX hLX c0 c1
    go_wp2_with fail
    refine (seal_any w2 b A2 m c2 (ty.body p i) HM.out (by omega) HB8.out (by omega) HT2.out HR2.out).mono ?_
    rintro e w3 ⟨v3, rfl, hown3, hb3⟩
    rw [← HSEAL.out] at hown3
    obtain ⟨q, hq⟩ : ∃ q, m + 4 = q := ⟨_, rfl⟩
    rw [hq] at hown3 HSL
    have hq45 : q ≤ 44 := by omega
    obtain ⟨A3, c3, rfl, -, -⟩ := own_form hown3
    have HR3 := hide (Row.of_own hown3)
    have HL3 := hide (show Le w w3 from HL2.out.trans hb3)
    have hz3 := HL3.out.size
    have hq8 : IntKind.u8.wrap (q : Int) = (q : Int) := by rw [IntKind.wrap_u8]; omega
    have hq88 : (q : Int) % 256 = (q : Int) := by omega
    clear hown3 hb3 hq
    go_wp2_with fail
    obtain ⟨Y, hY, hLY, hrT, hr1, hr2, hzY⟩ := cat_world w3 A3 q c3 (q : Int) (ty.sealed p i) 5 41 HR3.out
    rw [hY]
    clear hY
    refine (concat8_any Y _ 2 2 [⟨some ⟨w3.heap.size, 0, none⟩, 1, 1, [.int .u8 (q : Int)]⟩, ⟨A3, q, c3, u8s (ty.sealed p i)⟩] rfl (by omega) hrT ?_ ?_).mono ?_
    · intro q hq
      simp only [List.mem_cons, List.not_mem_nil, or_false] at hq
      rcases hq with rfl | rfl
      · exact ⟨rfl, one_int _ _, hr1⟩
      · exact ⟨by simp [u8s_len, HSL.out], u8s_one, hr2⟩
    · simp [lens8]; omega
    · rintro E w4 ⟨v4, rfl, hown4, hb4⟩
      have e1 : lens8 [⟨some ⟨w3.heap.size, 0, none⟩, 1, 1, [.int .u8 (q : Int)]⟩, ⟨A3, q, c3, u8s (ty.sealed p i)⟩] = (ty.lay p i).length := by
        rw [HLAY.out]; simp [lens8, HSL.out]; omega
      have e2 : all8 [⟨some ⟨w3.heap.size, 0, none⟩, 1, 1, [.int .u8 (q : Int)]⟩, ⟨A3, q, c3, u8s (ty.sealed p i)⟩] = u8s (ty.lay p i) := by
        rw [HLAY.out]; simp [all8, u8s, HSL.out]
      rw [e1, e2] at hown4
      go_wp2_with fail
      go_ret2
      rw [hput.out]
      exact ⟨_, rfl, own_more hown4 (by omega), HL3.out.trans (hLY.trans hb4)⟩
  · have hput := hide (ty.put_not hm)
    rw [decide_eq_false hm]
    have HB1 := hide (show Below w.heap.size w w1 from HLE.out.trans hb1)
    go_wp2_with fail
    go_ret2
    rw [hput.out]
    exact ⟨_, rfl, World.ownsRow_nil _ _ _ _, HB1.out⟩
#print axioms txput_any

end Go.Proofs.Ytocpeiocgppkfaa
