/-
  Fields, walked: laid down, by the document.
-/
import Derived.Test.YtjliocbdidiemaaDoorQC
namespace Go.Proofs.YtjliocbdidiemaaDoor
open Go.RowKit
set_option linter.unusedVariables false

set_option maxRecDepth 100000 in
set_option maxHeartbeats 8000000 in
theorem refwput_any (w : World) (A : Option Addr) (n c : Nat) (l : List FV) (fs : List Fld) (hfs : l.map (·.1) = fs) (hl : l.length = n) (hn : n ≤ 1000) (hfit : ∀ f ∈ fs, wi.Fits f) (hr : Row w w.heap.size A (fcs l)) (hh : Held w w.heap.size l) :
    Calls Tryd.prog 36 #[.slice A n c] w (Gives2 w.heap.size 5 1 (wi.put fs).1.length (u8s (wi.put fs).1) (.int .i64 (wi.put fs).2) w) := by
  have HL := hide hl
  have HH := hide hh
  have HF := hide hfit
  have HFS := hide hfs
  clear hl hh hfit hfs
  go_enter Tryd.func36, Tryd.ntmps36
  go_wp2_with fail
  obtain ⟨W0, hW0⟩ : ∃ W0, w.alloc (.cells #[] 5) = W0 := ⟨_, rfl⟩
  rw [hW0]
  have hs1 : W0.ownsRow w.heap.size 5 1 (.slice (some ⟨w.heap.size, 0, none⟩) 0 0) 0 (u8s []) := by rw [← hW0]; exact World.ownsRow_lit _ #[] 0 (Nat.le_refl _) (by simp) rfl
  have hs2 : Below w.heap.size w W0 := by rw [← hW0]; exact (Below.refl _ _).alloc (Nat.le_refl _) _
  clear hW0
  go_loopw [4, 5] (fun v i wr => ∃ (k m c3 : Nat) (A3 : Option Addr), k ≤ n ∧ i = .int .i64 k ∧ v = .slice A3 m c3 ∧ Hid (∀ (j : Nat) (f : Fld), j < k → fs[j]? = some f → 1 ≤ f.tag ∧ f.tag ≤ 100) ∧ Hid ((wi.enc (fs.take k)).length = m) ∧ m ≤ 2020 * k ∧ Hid (wr.ownsRow w.heap.size 5 1 (.slice A3 m c3) m (u8s (wi.enc (fs.take k)))) ∧ Hid (Below w.heap.size w wr)) (fun _ i _ => n - (intOf i).toNat)
  case atStart => exact ⟨0, 0, 0, _, Nat.zero_le _, rfl, rfl, hide (fun j f hj => by omega), hide (by simp [wi.enc]), by omega, hide (by simpa [wi.enc] using hs1), hide hs2⟩
  case round =>
    obtain ⟨k, m, c3, A3, hk, rfl, rfl, HG, HM, hm, HO, HB⟩ := hrel
    have hz := HB.out.size
    by_cases hkn : k < n
    · obtain ⟨p, hx⟩ : ∃ x, l[k]? = some x := ⟨_, List.getElem?_eq_getElem (by rw [HL.out]; omega)⟩
      obtain ⟨bA, oA, rfl, hbA, d0, d1, d2, d3⟩ := elem_cells hr hx HB.out (Nat.le_refl _)
      obtain ⟨hlc, hcm, hrb⟩ := HH.out.at_ hx
      have hfx := fst_at hx
      rw [HFS.out] at hfx
      have hfit := HF.out p.1 (List.mem_of_getElem? hfx)
      obtain ⟨⟨tag, isB, u, b⟩, Ab, cb⟩ := p
      simp only at d0 d1 d2 d3 hlc hrb hfx
      have hb300 : b.length ≤ 2000 := hfit.2.2
      have hu64 : var.S64 u := hfit.1
      obtain ⟨nb, hnb⟩ : ∃ nb, b.length = nb := ⟨_, rfl⟩
      rw [hnb] at d3 hb300
      have HNB := hide hnb
      have HFX := hide hfx
      have HFIT := hide hfit
      have HU := hide hu64
      have HRB := hide (hrb.below HB.out (Nat.le_refl _))
      clear hx hnb hfx hfit hlc hcm hrb hu64
      by_cases ht1 : tag < 1
      · have HX := hide (wi.put_bad HFX.out (by simp only; omega))
        go_wp2_with fail
        go_ret2
        exact gives8_none HX.out (HB.out.alloc hz _)
      · by_cases ht2 : 100 < tag
        · have HX := hide (wi.put_bad HFX.out (by simp only; omega))
          go_wp2_with fail
          go_ret2
          exact gives8_none HX.out (HB.out.alloc hz _)
        · obtain ⟨T, hT⟩ : ∃ T : Nat, tag = (T : Int) := ⟨tag.toNat, by omega⟩
          subst hT
          have hT1 : 1 ≤ T := by omega
          have hT2 : T ≤ 100 := by omega
          have dt : decide ((100 : Int) < (T : Int)) = false := decide_eq_false ht2
          cases isB
          · have HS := hide ((wi.enc_succ HFX.out).trans (by rw [wi.encF_num rfl]))
            have HEL := hide (wi.encF_len HFIT.out (by simp only; omega))
            rw [wi.encF_num rfl] at HEL
            simp only [Int.toNat_natCast] at HS HEL
            have HGN : Hid (∀ (j : Nat) (f : Fld), j < k + 1 → fs[j]? = some f → 1 ≤ f.tag ∧ f.tag ≤ 100) := fun j f hj hf => by
              by_cases hjk : j < k
              · exact HG.out j f hjk hf
              · obtain rfl : j = k := by omega
                rw [HFX.out] at hf
                injection hf with hf
                subst hf
                simp only
                omega
            obtain ⟨K, hK⟩ : ∃ K : Nat, K = 8 * T := ⟨_, rfl⟩
            obtain ⟨K2, hK2⟩ : ∃ K2 : Nat, K2 = K + 2 := ⟨_, rfl⟩
            have hKT : (8 : Int) * (T : Int) = (K : Int) := by omega
            have hKT2 : (K : Int) + 2 = (K2 : Int) := by omega
            have hK3 : K ≤ 800 := by omega
            have HK := hide hK
            have HK2 := hide hK2
            obtain ⟨V, hV⟩ : ∃ V, wr.alloc (.cells #[.int .i64 (T : Int), .bool false, .int .u64 (u : Int), .slice Ab nb cb] 54) = V := ⟨_, rfl⟩
            have bx : Box V wr.heap.size #[.int .i64 (T : Int), .bool false, .int .u64 (u : Int), .slice Ab nb cb] 54 := by rw [← hV]; exact box_new _ _ _
            have HLV := hide (show Le wr V by rw [← hV]; exact (Below.refl _ _).alloc (Nat.le_refl _) _)
            have HO1 := hide (show V.ownsRow w.heap.size 5 1 (.slice A3 m c3) m (u8s (wi.enc (fs.take k))) by rw [← hV]; exact HO.out.alloc _)
            have HV := hide hV
            have HBX := hide bx
            have hzV := HLV.out.size
            generalize wi.enc (fs.take k) = E0 at HM HO1 HS
            clear hV bx hK hK2 HO
            go_wp2_with fail
            rw [HV.out]
            clear hKT hKT2 d0 d1 d2 d3
            refine (refput_any V A3 m c3 E0 K HM.out (by omega) (Row.of_own HO1.out) (by unfold var.S64; omega)).mono ?_
            rintro e w3 ⟨v3, rfl, hown3, hb3⟩
            have hl1 := var.vput_len10 (x := K) (by unfold var.S64; omega)
            obtain ⟨m1, hm1⟩ : ∃ m1, m + (var.vput K).length = m1 := ⟨_, rfl⟩
            obtain ⟨E1, hE1⟩ : ∃ E1, E0 ++ var.vput K = E1 := ⟨_, rfl⟩
            rw [hm1, hE1] at hown3
            have HM1 := hide (show E1.length = m1 by rw [← hE1, List.length_append, HM.out, hm1])
            have HE1 := hide hE1
            have hm1b : m1 ≤ m + 10 := by omega
            obtain ⟨A4, c4, rfl, -, -⟩ := own_form hown3
            have HR3 := hide (Row.of_own hown3)
            have HB3 := hide (show Le V w3 from hb3)
            have e2 := HBX.out.later 2 (.int .u64 (u : Int)) rfl w3 HB3.out
            clear hown3 hb3 hm1 hE1 hl1
            go_wp2_with fail
            refine (refput_any w3 A4 m1 c4 E1 u HM1.out (by omega) HR3.out HU.out).mono ?_
            rintro e w5 ⟨v5, rfl, hown5, hb5⟩
            obtain ⟨m5, hm5⟩ : ∃ m5, m1 + (var.vput u).length = m5 := ⟨_, rfl⟩
            rw [hm5] at hown5
            obtain ⟨A5, c5, rfl, -, -⟩ := own_form hown5
            have HO5 := hide hown5
            have HB5 := hide (show Le w3 w5 from hb5)
            have HM5 := hide hm5
            have hz3 := HB3.out.size
            have hfin : wi.enc (fs.take (k + 1)) = E1 ++ var.vput u := by rw [HS.out, ← HK.out, ← HE1.out]; simp
            have hlen : (wi.enc (fs.take (k + 1))).length = m5 := by rw [hfin, List.length_append, HM1.out, HM5.out]
            have hle5 : m5 ≤ 2020 * (k + 1) := by
              rw [HS.out, List.length_append, HM.out] at hlen
              have := HEL.out
              omega
            have HLE := hide hlen
            have HOF := hide (show w5.ownsRow w.heap.size 5 1 (.slice A5 m5 c5) m5 (u8s (wi.enc (fs.take (k + 1)))) by rw [hfin]; exact own_more HO5.out (by omega))
            have HBF := hide (show Below w.heap.size w w5 from HB.out.trans (((HLV.out.trans HB3.out).trans HB5.out).mono hz))
            clear hfin hlen hown5 hb5 hm5 e2
            go_wp2_with fail
            exact ⟨⟨k + 1, m5, c5, A5, by omega, by go_num, rfl, HGN, HLE, hle5, HOF, HBF⟩, by simp [intOf]; omega⟩
          · have HS := hide ((wi.enc_succ HFX.out).trans (by rw [wi.encF_bytes rfl]))
            have HEL := hide (wi.encF_len HFIT.out (by simp only; omega))
            rw [wi.encF_bytes rfl] at HEL
            simp only [Int.toNat_natCast] at HS HEL
            have HGN : Hid (∀ (j : Nat) (f : Fld), j < k + 1 → fs[j]? = some f → 1 ≤ f.tag ∧ f.tag ≤ 100) := fun j f hj hf => by
              by_cases hjk : j < k
              · exact HG.out j f hjk hf
              · obtain rfl : j = k := by omega
                rw [HFX.out] at hf
                injection hf with hf
                subst hf
                simp only
                omega
            obtain ⟨K, hK⟩ : ∃ K : Nat, K = 8 * T := ⟨_, rfl⟩
            obtain ⟨K2, hK2⟩ : ∃ K2 : Nat, K2 = K + 2 := ⟨_, rfl⟩
            have hKT : (8 : Int) * (T : Int) = (K : Int) := by omega
            have hKT2 : (K : Int) + 2 = (K2 : Int) := by omega
            have hK3 : K ≤ 800 := by omega
            have HK := hide hK
            have HK2 := hide hK2
            obtain ⟨V, hV⟩ : ∃ V, wr.alloc (.cells #[.int .i64 (T : Int), .bool true, .int .u64 (u : Int), .slice Ab nb cb] 54) = V := ⟨_, rfl⟩
            have bx : Box V wr.heap.size #[.int .i64 (T : Int), .bool true, .int .u64 (u : Int), .slice Ab nb cb] 54 := by rw [← hV]; exact box_new _ _ _
            have HLV := hide (show Le wr V by rw [← hV]; exact (Below.refl _ _).alloc (Nat.le_refl _) _)
            have HO1 := hide (show V.ownsRow w.heap.size 5 1 (.slice A3 m c3) m (u8s (wi.enc (fs.take k))) by rw [← hV]; exact HO.out.alloc _)
            have HV := hide hV
            have HBX := hide bx
            have hzV := HLV.out.size
            generalize wi.enc (fs.take k) = E0 at HM HO1 HS
            clear hV bx hK hK2 HO
            have hnbw : IntKind.u64.wrap (nb : Int) = (nb : Int) := by rw [IntKind.wrap_u64]; omega
            go_wp2_with fail
            rw [HV.out]
            clear hKT hKT2 d0 d1 d2 d3
            refine (refput_any V A3 m c3 E0 K2 HM.out (by omega) (Row.of_own HO1.out) (by unfold var.S64; have := HK2.out; omega)).mono ?_
            rintro e w3 ⟨v3, rfl, hown3, hb3⟩
            have hl1 := var.vput_len10 (x := K2) (by unfold var.S64; have := HK2.out; omega)
            obtain ⟨m1, hm1⟩ : ∃ m1, m + (var.vput K2).length = m1 := ⟨_, rfl⟩
            obtain ⟨E1, hE1⟩ : ∃ E1, E0 ++ var.vput K2 = E1 := ⟨_, rfl⟩
            rw [hm1, hE1] at hown3
            have HM1 := hide (show E1.length = m1 by rw [← hE1, List.length_append, HM.out, hm1])
            have HE1 := hide hE1
            have hm1b : m1 ≤ m + 10 := by omega
            obtain ⟨A4, c4, rfl, -, -⟩ := own_form hown3
            have HR3 := hide (Row.of_own hown3)
            have HB3 := hide (show Le V w3 from hb3)
            have e3 := HBX.out.later 3 (.slice Ab nb cb) rfl w3 HB3.out
            clear hown3 hb3 hm1 hE1 hl1
            go_wp2_with fail
            refine (refput_any w3 A4 m1 c4 E1 nb HM1.out (by omega) HR3.out (by unfold var.S64; omega)).mono ?_
            rintro e w5 ⟨v5, rfl, hown5, hb5⟩
            have hl5 := var.vput_len10 (x := nb) (by unfold var.S64; omega)
            obtain ⟨m5, hm5⟩ : ∃ m5, m1 + (var.vput nb).length = m5 := ⟨_, rfl⟩
            obtain ⟨E5, hE5⟩ : ∃ E5, E1 ++ var.vput nb = E5 := ⟨_, rfl⟩
            rw [hm5, hE5] at hown5
            have HM5 := hide (show E5.length = m5 by rw [← hE5, List.length_append, HM1.out, hm5])
            have HE5 := hide hE5
            have hm5b : m5 ≤ m + 20 := by omega
            obtain ⟨A5, c5, rfl, -, -⟩ := own_form hown5
            have HO5 := hide hown5
            have HB5 := hide (show Le w3 w5 from hb5)
            have hz3 := HB3.out.size
            have hz5 := HB5.out.size
            have f3 := HBX.out.later 3 (.slice Ab nb cb) rfl w5 (HB3.out.trans HB5.out)
            have HRB5 := hide ((HRB.out.below ((HLV.out.trans HB3.out).trans HB5.out) (by omega)).more (show w.heap.size ≤ w5.heap.size by omega))
            clear hown5 hb5 hm5 hE5 hl5 e3
            go_wp2_with (at_builtin; refine wpList_append_row _ rfl (.tmp 41) (.tmp 43) 22 rfl w3.heap.size 5 info8 Tryd.underlying22 rfl (by omega) (.slice A5 m5 c5) m5 _ rfl HO5.out _ Ab nb cb (u8s b) rfl (by rw [u8s_len, HNB.out, Nat.mul_one]) HRB5.out u8s_one (by simp only [maxLen]; omega) (by omega) hz5 ?_; intro v6 w6 hown6 hg6 hat6; obtain ⟨A6, c6, rfl, -, -⟩ := own_form hown6; have HO6 := hide hown6; have HB6 := hide (show Below w3.heap.size w5 w6 from below_own hg6 (Nat.le_refl _) hz5 (fun g h => own_ge HO5.out h (Nat.le_refl _))); clear hown6 hg6 hat6)
            have hfin : wi.enc (fs.take (k + 1)) = E5 ++ b := by rw [HS.out, ← HK.out, ← HK2.out, ← HE5.out, ← HE1.out, HNB.out]; simp
            have hlen : (wi.enc (fs.take (k + 1))).length = m5 + nb := by rw [hfin, List.length_append, HM5.out, HNB.out]
            have hle5 : m5 + nb ≤ 2020 * (k + 1) := by
              rw [HS.out, List.length_append, HM.out] at hlen
              have := HEL.out
              omega
            exact ⟨⟨k + 1, m5 + nb, c6, A6, by omega, by go_num, rfl, HGN, hide hlen, hle5, hide (by rw [hfin, ← u8s_append]; exact own_more HO6.out (by omega)), hide (HB.out.trans (((HLV.out.trans HB3.out).mono hz).trans ((HB5.out.mono (by omega)).trans (HB6.out.mono (by omega)))))⟩, by simp [intOf]; omega⟩
    · obtain rfl : k = n := by omega
      have HT := hide (show fs.take k = fs from List.take_of_length_le (by rw [← HFS.out, List.length_map, HL.out]; exact Nat.le_refl _))
      have HX := hide (wi.put_ok (l := fs) fun j f hf => HG.out j f (by have := (List.getElem?_eq_some_iff.1 hf).1; rw [← HFS.out, List.length_map, HL.out] at this; exact this) hf)
      go_wp2_with fail
      go_ret2
      rw [HT.out] at HM HO
      exact gives8_some HX.out HM.out HO.out HB.out
end Go.Proofs.YtjliocbdidiemaaDoor
