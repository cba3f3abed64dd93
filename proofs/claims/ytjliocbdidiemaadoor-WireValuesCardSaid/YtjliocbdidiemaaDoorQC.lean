/-
  Fields, walked: laid down, by the program.
-/
import Derived.Test.YtjliocbdidiemaaDoorQB
namespace Go.Proofs.YtjliocbdidiemaaDoor
open Go.RowKit
set_option linter.unusedVariables false

theorem gives8_none {w w' : World} {E : TypeId} {r : List Nat × Int} {x : Int} (h : r = ([], x)) (hb : Below w.heap.size w w') : Gives2 w.heap.size E 1 r.1.length (u8s r.1) (.int .i64 r.2) w (.returned (.tuple #[.slice none 0 0, .int .i64 x])) w' := by
  subst h
  exact ⟨_, rfl, World.ownsRow_nil _ _ _ _, hb⟩
theorem gives8_some {w w' : World} {E : TypeId} {r : List Nat × Int} {l : List Nat} {n : Nat} {v : Value} (h : r = (l, 0)) (hn : l.length = n) (ho : w'.ownsRow w.heap.size E 1 v n (u8s l)) (hb : Below w.heap.size w w') : Gives2 w.heap.size E 1 r.1.length (u8s r.1) (.int .i64 r.2) w (.returned (.tuple #[v, .int .i64 0])) w' := by
  subst h
  subst hn
  exact ⟨_, rfl, ho, hb⟩
theorem or2 : ∀ T : Nat, T ≤ 100 → bits .or .u64 ((8 * T : Nat) : Int) 2 = ((8 * T + 2 : Nat) : Int) := by
  have h : ∀ T : Fin 101, bits .or .u64 ((8 * T.val : Nat) : Int) 2 = ((8 * T.val + 2 : Nat) : Int) := by decide +kernel
  exact fun T hT => h ⟨T, by omega⟩
theorem fst_at {l : List FV} {k : Nat} {p : FV} (h : l[k]? = some p) : (l.map (·.1))[k]? = some p.1 := by simp [h]

set_option maxRecDepth 100000 in
set_option maxHeartbeats 8000000 in
theorem wput_any (w : World) (A : Option Addr) (n c : Nat) (l : List FV) (fs : List Fld) (hfs : l.map (·.1) = fs) (hl : l.length = n) (hn : n ≤ 1000) (hfit : ∀ f ∈ fs, wi.Fits f) (hr : Row w w.heap.size A (fcs l)) (hh : Held w w.heap.size l) :
    Calls Tryd.prog 18 #[.slice A n c] w (Gives2 w.heap.size 5 1 (wi.put fs).1.length (u8s (wi.put fs).1) (.int .i64 (wi.put fs).2) w) := by
  have HL := hide hl
  have HH := hide hh
  have HF := hide hfit
  have HFS := hide hfs
  clear hl hh hfit hfs
  go_enter Tryd.func18, Tryd.ntmps18
  go_wp2_with fail
  go_loopw [4, 10] (fun v i wr => ∃ (k m c3 : Nat) (A3 : Option Addr), k ≤ n ∧ i = .int .i64 k ∧ v = .slice A3 m c3 ∧ Hid (∀ (j : Nat) (f : Fld), j < k → fs[j]? = some f → 1 ≤ f.tag ∧ f.tag ≤ 100) ∧ Hid ((wi.enc (fs.take k)).length = m) ∧ m ≤ 2020 * k ∧ Hid (wr.ownsRow w.heap.size 5 1 (.slice A3 m c3) m (u8s (wi.enc (fs.take k)))) ∧ Hid (Below w.heap.size w wr)) (fun _ i _ => n - (intOf i).toNat)
  case atStart => exact ⟨0, 0, 0, none, Nat.zero_le _, rfl, rfl, hide (fun j f hj => by omega), hide (by simp [wi.enc]), by omega, hide (by simpa [wi.enc, u8s] using World.ownsRow_nil _ _ _ _), hide (Below.refl _ _)⟩
  case round =>
    obtain ⟨k, m, c3, A3, hk, rfl, rfl, HG, HM, hm, HO, HB⟩ := hrel
    have hz := HB.out.size
    by_cases hkn : k < n
    · obtain ⟨p, hx⟩ : ∃ x, l[k]? = some x := ⟨_, List.getElem?_eq_getElem (by rw [HL.out]; omega)⟩
      obtain ⟨bA, oA, rfl, hbA, d0, d1, d2, d3⟩ := elem_cells hr hx HB.out (Nat.le_refl _)
      obtain ⟨hlc, hcm, hrb⟩ := HH.out.at_ hx
      have hfx := fst_at hx
      rw [HFS.out] at hfx
      have hfit := HF.out p.1 (List.mem_of_getElem? hfx)
      obtain ⟨⟨tag, isB, u, b⟩, Ab, cb⟩ := p
      simp only at d0 d1 d2 d3 hlc hrb hfx
      have hb300 : b.length ≤ 2000 := hfit.2.2
      have hu64 : var.S64 u := hfit.1
      obtain ⟨nb, hnb⟩ : ∃ nb, b.length = nb := ⟨_, rfl⟩
      rw [hnb] at d3 hb300
      have HNB := hide hnb
      have HFX := hide hfx
      have HFIT := hide hfit
      have HU := hide hu64
      have HRB := hide (hrb.below HB.out (Nat.le_refl _))
      clear hx hnb hfx hfit hlc hcm hrb hu64
      by_cases ht1 : tag < 1
      · have HX := hide (wi.put_bad HFX.out (by simp only; omega))
        go_wp2_with fail
        go_ret2
        exact gives8_none HX.out (HB.out.alloc hz _)
      · by_cases ht2 : 100 < tag
        · have HX := hide (wi.put_bad HFX.out (by simp only; omega))
          go_wp2_with fail
          go_ret2
          exact gives8_none HX.out (HB.out.alloc hz _)
        · obtain ⟨T, hT⟩ : ∃ T : Nat, tag = (T : Int) := ⟨tag.toNat, by omega⟩
          subst hT
          have hT1 : 1 ≤ T := by omega
          have hT2 : T ≤ 100 := by omega
          have dt : decide ((100 : Int) < (T : Int)) = false := decide_eq_false ht2
          cases isB
          · have HS := hide ((wi.enc_succ HFX.out).trans (by rw [wi.encF_num rfl]))
            have HEL := hide (wi.encF_len HFIT.out (by simp only; omega))
            rw [wi.encF_num rfl] at HEL
            simp only [Int.toNat_natCast] at HS HEL
            have HGN : Hid (∀ (j : Nat) (f : Fld), j < k + 1 → fs[j]? = some f → 1 ≤ f.tag ∧ f.tag ≤ 100) := fun j f hj hf => by
              by_cases hjk : j < k
              · exact HG.out j f hjk hf
              · obtain rfl : j = k := by omega
                rw [HFX.out] at hf
                injection hf with hf
                subst hf
                simp only
                omega
            obtain ⟨K, hK⟩ : ∃ K : Nat, K = 8 * T := ⟨_, rfl⟩
            have hKT : (T : Int) * 8 = (K : Int) := by omega
            have HK := hide hK
            obtain ⟨V, hV⟩ : ∃ V, (wr.alloc (.cells #[.int .i64 (T : Int), .bool false, .int .u64 (u : Int), .slice Ab nb cb] 49)).drew = V := ⟨_, rfl⟩
            have bx : Box V wr.heap.size #[.int .i64 (T : Int), .bool false, .int .u64 (u : Int), .slice Ab nb cb] 49 := by rw [← hV]; exact (box_new _ _ _).drew
            have HLV := hide (show Le wr V by rw [← hV]; exact ((Below.refl _ _).alloc (Nat.le_refl _) _).drew)
            have HO1 := hide (show V.ownsRow w.heap.size 5 1 (.slice A3 m c3) m (u8s (wi.enc (fs.take k))) by rw [← hV]; exact HO.out.alloc _)
            have HV := hide hV
            have g2 := bx.later 2 (.int .u64 (u : Int)) rfl
            have g3 := bx.later 3 (.slice Ab nb cb) rfl
            have hzV := HLV.out.size
            generalize wi.enc (fs.take k) = E0 at HM HO1 HS
            clear hV bx hK HO
            go_wp2_with fail
            clear hKT d0 d1 d2 d3
            refine region_pi [(0, true), (1, true), (3, true), (4, true), (2, false), (5, false), (6, true)] (by kernel_rfl) (by kernel_rfl) ?_
            simp only [opsPi, List.filterMap_cons, List.filterMap_nil, List.getElem?_toArray, List.getElem?_cons_zero, List.getElem?_cons_succ, Option.map_some]
            rw [HV.out]
            repeat (first | (refine pi_take (v := _) rfl (fun W hW => by go_simp <;> exact rfl) ?_; simp only [Act.put, List.setIfInBounds_toArray, List.set_cons_zero, List.set_cons_succ]) | (refine pi_skip rfl ?_; simp only [Act.put, List.setIfInBounds_toArray, List.set_cons_zero, List.set_cons_succ]))
            refine pi_run ?_
            go_wp2_with fail
            refine (put_any V A3 m c3 E0 K HM.out (by omega) (Row.of_own HO1.out) (var.vput_len10 (by unfold var.S64; have := HK.out; omega))).mono ?_
            rintro e w3 ⟨v3, rfl, hown3, hb3⟩
            have hl1 := var.vput_len10 (x := K) (by unfold var.S64; have := HK.out; omega)
            obtain ⟨m1, hm1⟩ : ∃ m1, m + (var.vput K).length = m1 := ⟨_, rfl⟩
            obtain ⟨E1, hE1⟩ : ∃ E1, E0 ++ var.vput K = E1 := ⟨_, rfl⟩
            rw [hm1, hE1] at hown3
            have HM1 := hide (show E1.length = m1 by rw [← hE1, List.length_append, HM.out, hm1])
            have HE1 := hide hE1
            have hm1b : m1 ≤ m + 10 := by omega
            obtain ⟨A4, c4, rfl, -, -⟩ := own_form hown3
            have HR3 := hide (Row.of_own hown3)
            have HB3 := hide (show Le V w3 from hb3)
            clear hown3 hb3 hm1 hE1 hl1
            go_wp2_with fail
            refine ⟨HB3.out, ?_⟩
            repeat (first | (refine pi_take (v := _) rfl (fun W hW => by go_simp <;> exact rfl) ?_; simp only [Act.put, List.setIfInBounds_toArray, List.set_cons_zero, List.set_cons_succ]) | (refine pi_skip rfl ?_; simp only [Act.put, List.setIfInBounds_toArray, List.set_cons_zero, List.set_cons_succ]))
            refine pi_run ?_
            go_wp2_with fail
            refine (put_any w3 A4 m1 c4 E1 u HM1.out (by omega) HR3.out (var.vput_len10 HU.out)).mono ?_
            rintro e w5 ⟨v5, rfl, hown5, hb5⟩
            obtain ⟨m5, hm5⟩ : ∃ m5, m1 + (var.vput u).length = m5 := ⟨_, rfl⟩
            rw [hm5] at hown5
            obtain ⟨A5, c5, rfl, -, -⟩ := own_form hown5
            have HO5 := hide hown5
            have HB5 := hide (show Le w3 w5 from hb5)
            have HM5 := hide hm5
            clear hown5 hb5 hm5
            go_wp2_with fail
            refine ⟨HB5.out, ?_⟩
            repeat (first | (refine pi_take (v := _) rfl (fun W hW => by go_simp <;> exact rfl) ?_; simp only [Act.put, List.setIfInBounds_toArray, List.set_cons_zero, List.set_cons_succ]) | (refine pi_skip rfl ?_; simp only [Act.put, List.setIfInBounds_toArray, List.set_cons_zero, List.set_cons_succ]))
            refine pi_done ?_
            have hz3 := HB3.out.size
            have hfin : wi.enc (fs.take (k + 1)) = E1 ++ var.vput u := by rw [HS.out, ← HK.out, ← HE1.out]; simp
            have hlen : (wi.enc (fs.take (k + 1))).length = m5 := by rw [hfin, List.length_append, HM1.out, HM5.out]
            have hle5 : m5 ≤ 2020 * (k + 1) := by
              rw [HS.out, List.length_append, HM.out] at hlen
              have := HEL.out
              omega
            have HFI := hide hfin
            have HLE := hide hlen
            have HOF := hide (show w5.ownsRow w.heap.size 5 1 (.slice A5 m5 c5) m5 (u8s (wi.enc (fs.take (k + 1)))) by rw [hfin]; exact own_more HO5.out (by omega))
            have HBF := hide (show Below w.heap.size w w5 from HB.out.trans (((HLV.out.trans HB3.out).trans HB5.out).mono hz))
            clear hfin hlen
            go_wp2_with fail
            exact ⟨⟨k + 1, m5, c5, A5, by omega, by go_num, rfl, HGN, HLE, hle5, HOF, HBF⟩, by simp [intOf]; omega⟩
          · have HS := hide ((wi.enc_succ HFX.out).trans (by rw [wi.encF_bytes rfl]))
            have HEL := hide (wi.encF_len HFIT.out (by simp only; omega))
            rw [wi.encF_bytes rfl] at HEL
            simp only [Int.toNat_natCast] at HS HEL
            have HGN : Hid (∀ (j : Nat) (f : Fld), j < k + 1 → fs[j]? = some f → 1 ≤ f.tag ∧ f.tag ≤ 100) := fun j f hj hf => by
              by_cases hjk : j < k
              · exact HG.out j f hjk hf
              · obtain rfl : j = k := by omega
                rw [HFX.out] at hf
                injection hf with hf
                subst hf
                simp only
                omega
            obtain ⟨K, hK⟩ : ∃ K : Nat, K = 8 * T := ⟨_, rfl⟩
            have hKT : (T : Int) * 8 = (K : Int) := by omega
            have HK := hide hK
            obtain ⟨V, hV⟩ : ∃ V, (wr.alloc (.cells #[.int .i64 (T : Int), .bool true, .int .u64 (u : Int), .slice Ab nb cb] 49)).drew = V := ⟨_, rfl⟩
            have bx : Box V wr.heap.size #[.int .i64 (T : Int), .bool true, .int .u64 (u : Int), .slice Ab nb cb] 49 := by rw [← hV]; exact (box_new _ _ _).drew
            have HLV := hide (show Le wr V by rw [← hV]; exact ((Below.refl _ _).alloc (Nat.le_refl _) _).drew)
            have HO1 := hide (show V.ownsRow w.heap.size 5 1 (.slice A3 m c3) m (u8s (wi.enc (fs.take k))) by rw [← hV]; exact HO.out.alloc _)
            have HV := hide hV
            have g2 := bx.later 2 (.int .u64 (u : Int)) rfl
            have g3 := bx.later 3 (.slice Ab nb cb) rfl
            have hzV := HLV.out.size
            generalize wi.enc (fs.take k) = E0 at HM HO1 HS
            clear hV bx hK HO
            have hKo : bits .or .u64 (K : Int) 2 = ((K + 2 : Nat) : Int) := by rw [HK.out]; exact or2 T hT2
            have hnbw : IntKind.u64.wrap (nb : Int) = (nb : Int) := by rw [IntKind.wrap_u64]; omega
            go_wp2_with fail
            clear hKT d0 d1 d2 d3
            refine region_pi [(0, true), (1, true), (2, true), (4, true), (5, true), (6, true), (7, true), (3, false), (8, false), (9, true)] (by kernel_rfl) (by kernel_rfl) ?_
            simp only [opsPi, List.filterMap_cons, List.filterMap_nil, List.getElem?_toArray, List.getElem?_cons_zero, List.getElem?_cons_succ, Option.map_some]
            rw [HV.out]
            repeat (first | (refine pi_take (v := _) rfl (fun W hW => by go_simp <;> exact rfl) ?_; simp only [Act.put, List.setIfInBounds_toArray, List.set_cons_zero, List.set_cons_succ]) | (refine pi_skip rfl ?_; simp only [Act.put, List.setIfInBounds_toArray, List.set_cons_zero, List.set_cons_succ]))
            refine pi_run ?_
            go_wp2_with fail
            refine (put_any V A3 m c3 E0 (K + 2) HM.out (by omega) (Row.of_own HO1.out) (var.vput_len10 (by unfold var.S64; have := HK.out; omega))).mono ?_
            rintro e w3 ⟨v3, rfl, hown3, hb3⟩
            have hl1 := var.vput_len10 (x := K + 2) (by unfold var.S64; have := HK.out; omega)
            obtain ⟨m1, hm1⟩ : ∃ m1, m + (var.vput (K + 2)).length = m1 := ⟨_, rfl⟩
            obtain ⟨E1, hE1⟩ : ∃ E1, E0 ++ var.vput (K + 2) = E1 := ⟨_, rfl⟩
            rw [hm1, hE1] at hown3
            have HM1 := hide (show E1.length = m1 by rw [← hE1, List.length_append, HM.out, hm1])
            have HE1 := hide hE1
            have hm1b : m1 ≤ m + 10 := by omega
            obtain ⟨A4, c4, rfl, -, -⟩ := own_form hown3
            have HR3 := hide (Row.of_own hown3)
            have HB3 := hide (show Le V w3 from hb3)
            clear hown3 hb3 hm1 hE1 hl1
            go_wp2_with fail
            refine ⟨HB3.out, ?_⟩
            repeat (first | (refine pi_take (v := _) rfl (fun W hW => by go_simp <;> exact rfl) ?_; simp only [Act.put, List.setIfInBounds_toArray, List.set_cons_zero, List.set_cons_succ]) | (refine pi_skip rfl ?_; simp only [Act.put, List.setIfInBounds_toArray, List.set_cons_zero, List.set_cons_succ]))
            refine pi_run ?_
            go_wp2_with fail
            refine (put_any w3 A4 m1 c4 E1 nb HM1.out (by omega) HR3.out (var.vput_len10 (by unfold var.S64; omega))).mono ?_
            rintro e w5 ⟨v5, rfl, hown5, hb5⟩
            have hl5 := var.vput_len10 (x := nb) (by unfold var.S64; omega)
            obtain ⟨m5, hm5⟩ : ∃ m5, m1 + (var.vput nb).length = m5 := ⟨_, rfl⟩
            obtain ⟨E5, hE5⟩ : ∃ E5, E1 ++ var.vput nb = E5 := ⟨_, rfl⟩
            rw [hm5, hE5] at hown5
            have HM5 := hide (show E5.length = m5 by rw [← hE5, List.length_append, HM1.out, hm5])
            have HE5 := hide hE5
            have hm5b : m5 ≤ m + 20 := by omega
            obtain ⟨A5, c5, rfl, -, -⟩ := own_form hown5
            have HO5 := hide hown5
            have HB5 := hide (show Le w3 w5 from hb5)
            clear hown5 hb5 hm5 hE5 hl5
            go_wp2_with fail
            refine ⟨HB5.out, ?_⟩
            repeat (first | (refine pi_take (v := _) rfl (fun W hW => by go_simp <;> exact rfl) ?_; simp only [Act.put, List.setIfInBounds_toArray, List.set_cons_zero, List.set_cons_succ]) | (refine pi_skip rfl ?_; simp only [Act.put, List.setIfInBounds_toArray, List.set_cons_zero, List.set_cons_succ]))
            refine pi_done ?_
            have hz3 := HB3.out.size
            have hz5 := HB5.out.size
            have e3 := g3 w5 (HB3.out.trans HB5.out)
            have HRB5 := hide ((HRB.out.below ((HLV.out.trans HB3.out).trans HB5.out) (by omega)).more (show w.heap.size ≤ w5.heap.size by omega))
            go_wp2_with (at_builtin; refine wpList_append_row _ rfl (.tmp 37) (.tmp 39) 22 rfl w3.heap.size 5 info8 Tryd.underlying22 rfl (by omega) (.slice A5 m5 c5) m5 _ rfl HO5.out _ Ab nb cb (u8s b) rfl (by rw [u8s_len, HNB.out, Nat.mul_one]) HRB5.out u8s_one (by simp only [maxLen]; omega) (by omega) hz5 ?_; intro v6 w6 hown6 hg6 hat6; obtain ⟨A6, c6, rfl, -, -⟩ := own_form hown6; have HO6 := hide hown6; have HB6 := hide (show Below w3.heap.size w5 w6 from below_own hg6 (Nat.le_refl _) hz5 (fun g h => own_ge HO5.out h (Nat.le_refl _))); clear hown6 hg6 hat6)
            have hfin : wi.enc (fs.take (k + 1)) = E5 ++ b := by rw [HS.out, ← HK.out, ← HE5.out, ← HE1.out, HNB.out]; simp
            have hlen : (wi.enc (fs.take (k + 1))).length = m5 + nb := by rw [hfin, List.length_append, HM5.out, HNB.out]
            have hle5 : m5 + nb ≤ 2020 * (k + 1) := by
              rw [HS.out, List.length_append, HM.out] at hlen
              have := HEL.out
              omega
            exact ⟨⟨k + 1, m5 + nb, c6, A6, by omega, by go_num, rfl, HGN, hide hlen, hle5, hide (by rw [hfin, ← u8s_append]; exact own_more HO6.out (by omega)), hide (HB.out.trans (((HLV.out.trans HB3.out).mono hz).trans ((HB5.out.mono (by omega)).trans (HB6.out.mono (by omega)))))⟩, by simp [intOf]; omega⟩
    · obtain rfl : k = n := by omega
      have HT := hide (show fs.take k = fs from List.take_of_length_le (by rw [← HFS.out, List.length_map, HL.out]; exact Nat.le_refl _))
      have HX := hide (wi.put_ok (l := fs) fun j f hf => HG.out j f (by have := (List.getElem?_eq_some_iff.1 hf).1; rw [← HFS.out, List.length_map, HL.out] at this; exact this) hf)
      go_wp2_with fail
      go_ret2
      rw [HT.out] at HM HO
      exact gives8_some HX.out HM.out HO.out HB.out
end Go.Proofs.YtjliocbdidiemaaDoor
