/-
  Values, walked: laid down as fields.
-/
import Derived.Test.YtjliocbdidiemaaDoorQD
import Derived.Test.YtjliocbdidiemaaDoorRegionF
import Derived.Laws.IdiomStrings
namespace Go.Proofs.YtjliocbdidiemaaDoor
open Go.RowKit
set_option linter.unusedVariables false

def bit (b : Bool) : Nat := if b then 1 else 0
/-- A text's bytes. -/
def byt (s : ByteArray) : List Nat := s.data.toList.map UInt8.toNat
theorem byt_len (s : ByteArray) : (byt s).length = s.size := by unfold byt; rw [List.length_map, Array.length_toList]; rfl
theorem byt8 (s : ByteArray) : ∀ x ∈ byt s, x < 256 := by
  intro x hx
  obtain ⟨y, -, rfl⟩ := List.mem_map.1 hx
  exact y.toNat_lt
/-- The bytes of a text, in new memory. -/
theorem text_bytes (s : ByteArray) (hs : s.size ≤ maxLen) : ∀ W : World, ∃ A c W', (convert 9 22 (.string s)).run Tryd.prog W = .ok (.slice A s.size c) W' ∧ Le W W' ∧ Row W' W'.heap.size A (u8s (byt s)) ∧ (s.size ≤ c ∧ c ≤ maxLen) := fun W => by
  refine ⟨_, _, _, run_bytes_of_string W 9 22 5 s Tryd.underlying9 Tryd.underlying22 Tryd.underlying5, ?_, ?_, grownCap_ge _ _ _ _, grownCap_le_maxLen _ _ _ _ hs⟩
  · exact (Below.refl _ _).drew.alloc (Nat.le_refl _) _
  · intro hn
    refine ⟨W.heap.size, 0, rfl, by simp, fun j u hu => ?_⟩
    rw [Nat.zero_add]
    refine (cell_of_row _ _ j _ _ _ (heap_alloc_new W.drew _)).trans ?_
    have hj : j < s.data.size := by
      have := (List.getElem?_eq_some_iff.1 hu).1
      simpa [u8s, byt] using this
    unfold bytesRow
    rw [Array.getElem?_append_left (by simpa using hj), Array.getElem?_map]
    simp only [u8s, byt, List.getElem?_map, Array.getElem?_toList] at hu
    rw [Array.getElem?_eq_getElem hj] at hu ⊢
    simpa using hu

theorem truth_any (w : World) (tag : Int) (b : Bool) :
    Calls Tryd.prog 29 #[.int .i64 tag, .bool b] w fun e w' => e = .returned (.agg #[.int .i64 tag, .bool false, .int .u64 (bit b : Int), .slice none 0 0]) ∧ Below w.heap.size w w' := by
  cases b
  · go_enter Tryd.func29, Tryd.ntmps29
    go_wp2_with fail
    obtain ⟨W, hW, hbox0, -, hb, -⟩ := two_boxes w #[.int .i64 tag, .bool false, .int .u64 0, .slice none 0 0] #[.int .i64 tag, .bool false, .int .u64 0, .slice none 0 0] 49
    rw [hW]
    exact bodyPost_ret (box_results rfl _ hbox0 rfl Tryd.underlying49 rfl rfl) rfl ⟨rfl, hb⟩
  · go_enter Tryd.func29, Tryd.ntmps29
    go_wp2_with fail
    obtain ⟨W, hW, hbox0, -, hb, -⟩ := two_boxes w #[.int .i64 tag, .bool false, .int .u64 1, .slice none 0 0] #[.int .i64 tag, .bool false, .int .u64 1, .slice none 0 0] 49
    rw [hW]
    exact bodyPost_ret (box_results rfl _ hbox0 rfl Tryd.underlying49 rfl rfl) rfl ⟨rfl, hb⟩
theorem sign_any (w : World) (tag x : Int) (hx : I64 x) :
    Calls Tryd.prog 30 #[.int .i64 tag, .int .i64 x] w fun e w' => e = .returned (.agg #[.int .i64 tag, .bool false, .int .u64 (zig x : Nat), .slice none 0 0]) ∧ Below w.heap.size w w' := by
  have HX := hide hx
  clear hx
  go_enter Tryd.func30, Tryd.ntmps30
  go_wp2_with fail
  refine (zig_any _ x HX.out).mono ?_
  rintro e w' ⟨rfl, rfl⟩
  go_wp2_with fail
  refine bodyPost_ret (box_results rfl _ (box_new w _ _) rfl Tryd.underlying49 rfl rfl) rfl ⟨rfl, (Below.refl _ _).alloc (Nat.le_refl _) _⟩
theorem text_any (w : World) (tag : Int) (A : Option Addr) (n c : Nat) :
    Calls Tryd.prog 31 #[.int .i64 tag, .slice A n c] w fun e w' => e = .returned (.agg #[.int .i64 tag, .bool true, .int .u64 0, .slice A n c]) ∧ Below w.heap.size w w' := by
  go_enter Tryd.func31, Tryd.ntmps31
  go_wp2_with fail
  refine bodyPost_ret (box_results rfl _ (box_new w _ _) rfl Tryd.underlying49 rfl rfl) rfl ⟨rfl, (Below.refl _ _).alloc (Nat.le_refl _) _⟩
theorem wputs_any (w : World) (A : Option Addr) (n c : Nat) (l : List FV) (fs : List Fld) (hfs : l.map (·.1) = fs) (hl : l.length = n) (hn : n ≤ 1000) (hfit : ∀ f ∈ fs, wi.Fits f) (hr : Row w w.heap.size A (fcs l)) (hh : Held w w.heap.size l) :
    Calls Tryd.prog 28 #[.slice A n c] w (Gives w.heap.size 5 1 (wi.put fs).1.length (u8s (wi.put fs).1) w) := by
  go_enter Tryd.func28, Tryd.ntmps28
  go_wp2_with fail
  refine (wput_any w A n c l fs hfs hl hn hfit hr hh).mono ?_
  rintro e w' ⟨v, rfl, hown, hb⟩
  go_wp2_with fail
  go_ret
  exact ⟨v, rfl, hown, hb⟩

/-- A value as fields. -/
def valF (nul : Bool) (x : Int) (b : List Nat) : List Fld := [⟨1, false, bit nul, []⟩, ⟨2, false, zig x, []⟩, ⟨3, true, 0, b⟩]
def valE (nul : Bool) (x : Int) (b : List Nat) : List Nat := wi.enc (valF nul x b)
def valV (nul : Bool) (x : Int) (b : List Nat) (A : Option Addr) (c : Nat) : List FV := [(⟨1, false, bit nul, []⟩, none, 0), (⟨2, false, zig x, []⟩, none, 0), (⟨3, true, 0, b⟩, A, c)]
theorem valF_put (nul : Bool) (x : Int) (b : List Nat) : (wi.put (valF nul x b)).1 = valE nul x b := by
  rw [wi.put_ok]
  · rfl
  · intro k f hk
    have hm := List.mem_of_getElem? hk
    simp [valF] at hm
    rcases hm with rfl | rfl | rfl <;> simp
theorem valF_fits {nul : Bool} {x : Int} {b : List Nat} (hx : I64 x) (h8 : ∀ c ∈ b, c < 256) (hb : b.length ≤ 2000) : ∀ f ∈ valF nul x b, wi.Fits f := by
  intro f hf
  simp [valF] at hf
  rcases hf with rfl | rfl | rfl
  · exact ⟨by unfold var.S64 bit; split <;> decide, by simp, by simp⟩
  · exact ⟨zig_s64 hx, by simp, by simp⟩
  · exact ⟨show (0 : Nat) < 18446744073709551616 by decide, h8, hb⟩
theorem valV_held {w : World} {nul : Bool} {x : Int} {b : List Nat} {A : Option Addr} {c : Nat} (h1 : b.length ≤ c) (h2 : c ≤ maxLen) (h3 : Row w w.heap.size A (u8s b)) : Held w w.heap.size (valV nul x b A c) := by
  intro p hp
  simp [valV] at hp
  rcases hp with rfl | rfl | rfl
  · exact ⟨by simp, by simp, Row.none_⟩
  · exact ⟨by simp, by simp, Row.none_⟩
  · exact ⟨h1, h2, h3⟩

set_option maxRecDepth 100000 in
set_option maxHeartbeats 8000000 in
theorem putvalue_any (w : World) (nul : Bool) (x : Int) (s : ByteArray) (hx : I64 x) (hs : s.size ≤ 2000) :
    Calls Tryd.prog 13 #[.agg #[.bool nul, .int .i64 x, .string s]] w (Gives w.heap.size 5 1 (valE nul x (byt s)).length (u8s (valE nul x (byt s))) w) := by
  have HX := hide hx
  have HCV := hide (text_bytes s (by unfold maxLen; omega))
  have HFIT := hide (valF_fits (nul := nul) hx (byt8 s) (by rw [byt_len]; exact hs))
  obtain ⟨nb, hnb⟩ : ∃ nb, s.size = nb := ⟨_, rfl⟩
  rw [hnb] at HCV
  have HNB := hide (show (byt s).length = nb by rw [byt_len]; exact hnb)
  obtain ⟨V, hV⟩ : ∃ V, (w.alloc (.cells #[.bool nul, .int .i64 x, .string s] 32)).drew = V := ⟨_, rfl⟩
  have bx : Box V w.heap.size #[.bool nul, .int .i64 x, .string s] 32 := by rw [← hV]; exact (box_new _ _ _).drew
  have HLV := hide (show Le w V by rw [← hV]; exact ((Below.refl _ _).alloc (Nat.le_refl _) _).drew)
  have g0 := bx.later 0 (.bool nul) rfl
  have g1 := bx.later 1 (.int .i64 x) rfl
  have g2 := bx.later 2 (.string s) rfl
  have HV := hide hV
  clear hV bx hx hs hnb
  go_enter Tryd.func13, Tryd.ntmps13
  go_wp2_with fail
  refine early_begin (by kernel_rfl) ?_
  rw [HV.out]
  show Early _ _ _ 13 (Array.replicate 13 false) _ _
  refine early_take (i := 0) (v := _) rfl (by kernel_rfl) (by kernel_rfl) (by kernel_rfl) rfl (fun W hW => by go_simp <;> exact rfl) ?_
  simp only [Act.put, List.getElem_toArray, List.getElem_cons_zero, List.setIfInBounds_toArray, List.set_cons_zero, List.set_cons_succ]
  refine early_take (i := 1) (v := _) rfl (by kernel_rfl) (by kernel_rfl) (by kernel_rfl) rfl (fun W hW => by go_simp <;> exact rfl) ?_
  simp only [Act.put, List.getElem_toArray, List.getElem_cons_zero, List.getElem_cons_succ, List.setIfInBounds_toArray, List.set_cons_zero, List.set_cons_succ]
  refine early_take (i := 3) (v := _) rfl (by kernel_rfl) (by kernel_rfl) (by kernel_rfl) rfl (fun W hW => by go_simp <;> exact rfl) ?_
  simp only [Act.put, List.getElem_toArray, List.getElem_cons_zero, List.getElem_cons_succ, List.setIfInBounds_toArray, List.set_cons_zero, List.set_cons_succ]
  refine early_take (i := 4) (v := _) rfl (by kernel_rfl) (by kernel_rfl) (by kernel_rfl) rfl (fun W hW => by go_simp <;> exact rfl) ?_
  simp only [Act.put, List.getElem_toArray, List.getElem_cons_zero, List.getElem_cons_succ, List.setIfInBounds_toArray, List.set_cons_zero, List.set_cons_succ]
  refine early_take (i := 6) (v := _) rfl (by kernel_rfl) (by kernel_rfl) (by kernel_rfl) rfl (fun W hW => by go_simp <;> exact rfl) ?_
  simp only [Act.put, List.getElem_toArray, List.getElem_cons_zero, List.getElem_cons_succ, List.setIfInBounds_toArray, List.set_cons_zero, List.set_cons_succ]
  refine early_take (i := 7) (v := _) rfl (by kernel_rfl) (by kernel_rfl) (by kernel_rfl) rfl (fun W hW => by go_simp <;> exact rfl) ?_
  simp only [Act.put, List.getElem_toArray, List.getElem_cons_zero, List.getElem_cons_succ, List.setIfInBounds_toArray, List.set_cons_zero, List.set_cons_succ]
  clear g0 g1 g2
  refine early_two (i := 2) (j := 8) rfl rfl (by kernel_rfl) ?_ ?_
  · go_wp2_with fail
    refine (truth_any V 1 nul).mono ?_
    rintro e w1 ⟨rfl, hb⟩
    have HB1 := hide (show Le V w1 from hb)
    clear hb
    go_wp2_with fail
    refine ⟨HB1.out, ?_⟩
    refine early_two (i := 5) (j := 8) rfl rfl (by kernel_rfl) ?_ ?_
    · go_wp2_with fail
      refine (sign_any w1 2 x HX.out).mono ?_
      rintro e w2 ⟨rfl, hb⟩
      have HB2 := hide (show Le w1 w2 from hb)
      clear hb
      go_wp2_with fail
      refine ⟨HB2.out, ?_⟩
      refine early_one (i := 8) rfl (by kernel_rfl) ?_
      obtain ⟨A8, c8, w3, hc8, hle8, hrow8, hcap8⟩ := HCV.out w2
      have HB3 := hide hle8
      have HR8 := hide hrow8
      have HC8 := hide hcap8
      clear hle8 hrow8 hcap8
      go_wp2_with fail
      refine ⟨HB3.out, ?_⟩
      clear hc8
      have HR9 := hide HR8.out
      refine early_one (i := 9) rfl (by kernel_rfl) ?_
      go_wp2_with fail
      refine (text_any w3 3 A8 nb c8).mono ?_
      rintro e w20 ⟨rfl, hb⟩
      have HB20 := hide (show Le w3 w20 from hb)
      clear hb
      go_wp2_with fail
      refine ⟨HB20.out, ?_⟩
      refine early_one (i := 10) rfl (by kernel_rfl) ?_
      go_wp2_with fail
      refine ⟨(Below.refl _ _).alloc (Nat.le_refl _) _, ?_⟩
      refine early_one (i := 11) rfl (by kernel_rfl) ?_
      go_wp2_with fail
      obtain ⟨X, hX⟩ : ∃ X, w20.alloc (.cells #[.int .i64 1, .bool false, .int .u64 (bit nul : Int), .slice none 0 0, .int .i64 2, .bool false, .int .u64 (zig x : Int), .slice none 0 0, .int .i64 3, .bool true, .int .u64 0, .slice A8 nb c8] 49) = X := ⟨_, rfl⟩
      have hXrow : Row X X.heap.size (some ⟨w20.heap.size, 0, none⟩) (fcs (valV nul x (byt s) A8 c8)) := by
        rw [← hX]
        have h := (row_new w20 #[.int .i64 1, .bool false, .int .u64 (bit nul : Int), .slice none 0 0, .int .i64 2, .bool false, .int .u64 (zig x : Int), .slice none 0 0, .int .i64 3, .bool true, .int .u64 0, .slice A8 nb c8] 49 (0, 0)).more (show w20.heap.size + 1 ≤ (w20.alloc (.cells #[.int .i64 1, .bool false, .int .u64 (bit nul : Int), .slice none 0 0, .int .i64 2, .bool false, .int .u64 (zig x : Int), .slice none 0 0, .int .i64 3, .bool true, .int .u64 0, .slice A8 nb c8] 49)).heap.size by simp)
        rw [← HNB.out] at h ⊢
        exact h
      have HLX := hide (show Le w20 X by rw [← hX]; exact (Below.refl _ _).alloc (Nat.le_refl _) _)
      have hXheld : Held X X.heap.size (valV nul x (byt s) A8 c8) := valV_held (by rw [HNB.out]; exact HC8.out.1) HC8.out.2 ((HR9.out.le HB20.out).le HLX.out)
      rw [hX]
      have HXX := hide hX
      clear hX
      refine (wputs_any X _ 3 3 (valV nul x (byt s) A8 c8) (valF nul x (byt s)) rfl rfl (by omega) HFIT.out hXrow hXheld).mono ?_
      rintro e w21 ⟨v21, rfl, hown21, hb21⟩
      have HB21 := hide (show Le X w21 from hb21)
      have HBF := hide (show Below w.heap.size w w21 from HLV.out.trans (HB1.out.trans (HB2.out.trans (HB3.out.trans (HB20.out.trans (HLX.out.trans HB21.out))))))
      have HOF := hide (show w21.ownsRow w.heap.size 5 1 v21 (valE nul x (byt s)).length (u8s (valE nul x (byt s))) by rw [valF_put] at hown21; exact own_more hown21 (HLV.out.trans (HB1.out.trans (HB2.out.trans (HB3.out.trans (HB20.out.trans HLX.out))))).size)
      obtain ⟨A21, c21, rfl, -, -⟩ := own_form HOF.out
      clear hown21 hb21 hXrow hXheld
      go_wp2_with fail
      refine ⟨by rw [HXX.out]; exact HB21.out, ?_⟩
      refine early_take (i := 12) (v := _) rfl (by kernel_rfl) (by kernel_rfl) (by kernel_rfl) rfl (fun W hW => by go_simp <;> exact rfl) ?_
      simp only [Act.put, List.getElem_toArray, List.getElem_cons_zero, List.getElem_cons_succ, List.setIfInBounds_toArray, List.set_cons_zero, List.set_cons_succ]
      refine early_done (by kernel_rfl) ?_ _
      go_wp2_with fail
      go_ret
      exact ⟨_, rfl, HOF.out, HBF.out⟩
    · obtain ⟨A8, c8, w2, hc8, hle8, hrow8, hcap8⟩ := HCV.out w1
      have HB2 := hide hle8
      have HR8 := hide hrow8
      have HC8 := hide hcap8
      clear hle8 hrow8 hcap8
      go_wp2_with fail
      refine ⟨HB2.out, ?_⟩
      clear hc8
      refine early_one (i := 5) rfl (by kernel_rfl) ?_
      go_wp2_with fail
      refine (sign_any w2 2 x HX.out).mono ?_
      rintro e w3 ⟨rfl, hb⟩
      have HB3 := hide (show Le w2 w3 from hb)
      clear hb
      go_wp2_with fail
      refine ⟨HB3.out, ?_⟩
      have HR9 := hide (HR8.out.le HB3.out)
      refine early_one (i := 9) rfl (by kernel_rfl) ?_
      go_wp2_with fail
      refine (text_any w3 3 A8 nb c8).mono ?_
      rintro e w20 ⟨rfl, hb⟩
      have HB20 := hide (show Le w3 w20 from hb)
      clear hb
      go_wp2_with fail
      refine ⟨HB20.out, ?_⟩
      refine early_one (i := 10) rfl (by kernel_rfl) ?_
      go_wp2_with fail
      refine ⟨(Below.refl _ _).alloc (Nat.le_refl _) _, ?_⟩
      refine early_one (i := 11) rfl (by kernel_rfl) ?_
      go_wp2_with fail
      obtain ⟨X, hX⟩ : ∃ X, w20.alloc (.cells #[.int .i64 1, .bool false, .int .u64 (bit nul : Int), .slice none 0 0, .int .i64 2, .bool false, .int .u64 (zig x : Int), .slice none 0 0, .int .i64 3, .bool true, .int .u64 0, .slice A8 nb c8] 49) = X := ⟨_, rfl⟩
      have hXrow : Row X X.heap.size (some ⟨w20.heap.size, 0, none⟩) (fcs (valV nul x (byt s) A8 c8)) := by
        rw [← hX]
        have h := (row_new w20 #[.int .i64 1, .bool false, .int .u64 (bit nul : Int), .slice none 0 0, .int .i64 2, .bool false, .int .u64 (zig x : Int), .slice none 0 0, .int .i64 3, .bool true, .int .u64 0, .slice A8 nb c8] 49 (0, 0)).more (show w20.heap.size + 1 ≤ (w20.alloc (.cells #[.int .i64 1, .bool false, .int .u64 (bit nul : Int), .slice none 0 0, .int .i64 2, .bool false, .int .u64 (zig x : Int), .slice none 0 0, .int .i64 3, .bool true, .int .u64 0, .slice A8 nb c8] 49)).heap.size by simp)
        rw [← HNB.out] at h ⊢
        exact h
      have HLX := hide (show Le w20 X by rw [← hX]; exact (Below.refl _ _).alloc (Nat.le_refl _) _)
      have hXheld : Held X X.heap.size (valV nul x (byt s) A8 c8) := valV_held (by rw [HNB.out]; exact HC8.out.1) HC8.out.2 ((HR9.out.le HB20.out).le HLX.out)
      rw [hX]
      have HXX := hide hX
      clear hX
      refine (wputs_any X _ 3 3 (valV nul x (byt s) A8 c8) (valF nul x (byt s)) rfl rfl (by omega) HFIT.out hXrow hXheld).mono ?_
      rintro e w21 ⟨v21, rfl, hown21, hb21⟩
      have HB21 := hide (show Le X w21 from hb21)
      have HBF := hide (show Below w.heap.size w w21 from HLV.out.trans (HB1.out.trans (HB2.out.trans (HB3.out.trans (HB20.out.trans (HLX.out.trans HB21.out))))))
      have HOF := hide (show w21.ownsRow w.heap.size 5 1 v21 (valE nul x (byt s)).length (u8s (valE nul x (byt s))) by rw [valF_put] at hown21; exact own_more hown21 (HLV.out.trans (HB1.out.trans (HB2.out.trans (HB3.out.trans (HB20.out.trans HLX.out))))).size)
      obtain ⟨A21, c21, rfl, -, -⟩ := own_form HOF.out
      clear hown21 hb21 hXrow hXheld
      go_wp2_with fail
      refine ⟨by rw [HXX.out]; exact HB21.out, ?_⟩
      refine early_take (i := 12) (v := _) rfl (by kernel_rfl) (by kernel_rfl) (by kernel_rfl) rfl (fun W hW => by go_simp <;> exact rfl) ?_
      simp only [Act.put, List.getElem_toArray, List.getElem_cons_zero, List.getElem_cons_succ, List.setIfInBounds_toArray, List.set_cons_zero, List.set_cons_succ]
      refine early_done (by kernel_rfl) ?_ _
      go_wp2_with fail
      go_ret
      exact ⟨_, rfl, HOF.out, HBF.out⟩
  · obtain ⟨A8, c8, w1, hc8, hle8, hrow8, hcap8⟩ := HCV.out V
    have HB1 := hide hle8
    have HR8 := hide hrow8
    have HC8 := hide hcap8
    clear hle8 hrow8 hcap8
    go_wp2_with fail
    refine ⟨HB1.out, ?_⟩
    clear hc8
    refine early_one (i := 2) rfl (by kernel_rfl) ?_
    go_wp2_with fail
    refine (truth_any w1 1 nul).mono ?_
    rintro e w2 ⟨rfl, hb⟩
    have HB2 := hide (show Le w1 w2 from hb)
    clear hb
    go_wp2_with fail
    refine ⟨HB2.out, ?_⟩
    refine early_one (i := 5) rfl (by kernel_rfl) ?_
    go_wp2_with fail
    refine (sign_any w2 2 x HX.out).mono ?_
    rintro e w3 ⟨rfl, hb⟩
    have HB3 := hide (show Le w2 w3 from hb)
    clear hb
    go_wp2_with fail
    refine ⟨HB3.out, ?_⟩
    have HR9 := hide (HR8.out.le (HB2.out.trans HB3.out))
    refine early_one (i := 9) rfl (by kernel_rfl) ?_
    go_wp2_with fail
    refine (text_any w3 3 A8 nb c8).mono ?_
    rintro e w20 ⟨rfl, hb⟩
    have HB20 := hide (show Le w3 w20 from hb)
    clear hb
    go_wp2_with fail
    refine ⟨HB20.out, ?_⟩
    refine early_one (i := 10) rfl (by kernel_rfl) ?_
    go_wp2_with fail
    refine ⟨(Below.refl _ _).alloc (Nat.le_refl _) _, ?_⟩
    refine early_one (i := 11) rfl (by kernel_rfl) ?_
    go_wp2_with fail
    obtain ⟨X, hX⟩ : ∃ X, w20.alloc (.cells #[.int .i64 1, .bool false, .int .u64 (bit nul : Int), .slice none 0 0, .int .i64 2, .bool false, .int .u64 (zig x : Int), .slice none 0 0, .int .i64 3, .bool true, .int .u64 0, .slice A8 nb c8] 49) = X := ⟨_, rfl⟩
    have hXrow : Row X X.heap.size (some ⟨w20.heap.size, 0, none⟩) (fcs (valV nul x (byt s) A8 c8)) := by
      rw [← hX]
      have h := (row_new w20 #[.int .i64 1, .bool false, .int .u64 (bit nul : Int), .slice none 0 0, .int .i64 2, .bool false, .int .u64 (zig x : Int), .slice none 0 0, .int .i64 3, .bool true, .int .u64 0, .slice A8 nb c8] 49 (0, 0)).more (show w20.heap.size + 1 ≤ (w20.alloc (.cells #[.int .i64 1, .bool false, .int .u64 (bit nul : Int), .slice none 0 0, .int .i64 2, .bool false, .int .u64 (zig x : Int), .slice none 0 0, .int .i64 3, .bool true, .int .u64 0, .slice A8 nb c8] 49)).heap.size by simp)
      rw [← HNB.out] at h ⊢
      exact h
    have HLX := hide (show Le w20 X by rw [← hX]; exact (Below.refl _ _).alloc (Nat.le_refl _) _)
    have hXheld : Held X X.heap.size (valV nul x (byt s) A8 c8) := valV_held (by rw [HNB.out]; exact HC8.out.1) HC8.out.2 ((HR9.out.le HB20.out).le HLX.out)
    rw [hX]
    have HXX := hide hX
    clear hX
    refine (wputs_any X _ 3 3 (valV nul x (byt s) A8 c8) (valF nul x (byt s)) rfl rfl (by omega) HFIT.out hXrow hXheld).mono ?_
    rintro e w21 ⟨v21, rfl, hown21, hb21⟩
    have HB21 := hide (show Le X w21 from hb21)
    have HBF := hide (show Below w.heap.size w w21 from HLV.out.trans (HB1.out.trans (HB2.out.trans (HB3.out.trans (HB20.out.trans (HLX.out.trans HB21.out))))))
    have HOF := hide (show w21.ownsRow w.heap.size 5 1 v21 (valE nul x (byt s)).length (u8s (valE nul x (byt s))) by rw [valF_put] at hown21; exact own_more hown21 (HLV.out.trans (HB1.out.trans (HB2.out.trans (HB3.out.trans (HB20.out.trans HLX.out))))).size)
    obtain ⟨A21, c21, rfl, -, -⟩ := own_form HOF.out
    clear hown21 hb21 hXrow hXheld
    go_wp2_with fail
    refine ⟨by rw [HXX.out]; exact HB21.out, ?_⟩
    refine early_take (i := 12) (v := _) rfl (by kernel_rfl) (by kernel_rfl) (by kernel_rfl) rfl (fun W hW => by go_simp <;> exact rfl) ?_
    simp only [Act.put, List.getElem_toArray, List.getElem_cons_zero, List.getElem_cons_succ, List.setIfInBounds_toArray, List.set_cons_zero, List.set_cons_succ]
    refine early_done (by kernel_rfl) ?_ _
    go_wp2_with fail
    go_ret
    exact ⟨_, rfl, HOF.out, HBF.out⟩
#print axioms putvalue_any
end Go.Proofs.YtjliocbdidiemaaDoor
