/-
  The law on what is taken as it was laid down, walked.
-/
import Derived.Test.YtjliocbdidiemaaWireJ
namespace Go.Proofs.Ytjliocbdidiemaa
open Go.RowKit
set_option linter.unusedVariables false

def normV (p : FV) : FV := if p.1.isB then (⟨p.1.tag, true, 0, p.1.b⟩, p.2) else (⟨p.1.tag, false, p.1.n, []⟩, none, 0)
/-- The fields that may be, each with nothing in its other half. -/
def selV (l : List FV) : List FV := (l.map normV).filter fun p => wi.ok p.1
theorem selV_succ {l : List FV} {k : Nat} {p : FV} (h : l[k]? = some p) : selV (l.take (k + 1)) = selV (l.take k) ++ (if wi.ok (normV p).1 then [normV p] else []) := by
  unfold selV
  rw [List.take_add_one, h, List.map_append, List.filter_append]
  congr 1
  simp only [Option.toList_some, List.map_cons, List.map_nil, List.filter_cons, List.filter_nil]
theorem sel_fits {l : List FV} (h : ∀ p ∈ l, wi.Fits p.1) : ∀ f ∈ (selV l).map (·.1), wi.Fits f ∧ (1 ≤ f.tag ∧ f.tag ≤ 100) ∧ wi.Norm f := by
  intro f hf
  obtain ⟨p, hp, rfl⟩ := List.mem_map.1 hf
  obtain ⟨hp1, hp2⟩ := List.mem_filter.1 hp
  obtain ⟨q, hq, rfl⟩ := List.mem_map.1 hp1
  obtain ⟨h1, h2, h3⟩ := h q hq
  refine ⟨?_, by simpa [wi.ok] using hp2, ?_⟩
  · unfold normV
    split
    · exact ⟨show (0 : Nat) < 18446744073709551616 by decide, h2, h3⟩
    · exact ⟨h1, by simp, by simp⟩
  · unfold normV
    split
    · exact ⟨fun _ => rfl, fun h => by simp at h⟩
    · exact ⟨fun h => by simp at h, fun _ => rfl⟩
theorem sel_held {w : World} {B : Nat} {l : List FV} (h : Held w B l) : Held w B (selV l) := by
  intro p hp
  obtain ⟨q, hq, rfl⟩ := List.mem_map.1 (List.mem_filter.1 hp).1
  obtain ⟨h1, h2, h3⟩ := h q hq
  unfold normV
  split
  · exact ⟨h1, h2, h3⟩
  · exact ⟨by simp, by simp, Row.none_⟩
theorem sel_len (l : List FV) : (selV l).length ≤ l.length := by
  unfold selV
  refine Nat.le_trans (List.length_filter_le _ _) ?_
  rw [List.length_map]; exact Nat.le_refl _

set_option maxRecDepth 100000 in
set_option maxHeartbeats 8000000 in
theorem back_walk (w : World) (A : Option Addr) (n c : Nat) (l : List FV) (at_ : Int) (hl : l.length = n) (hnc : n ≤ c) (hc : c ≤ maxLen) (hcame : ∀ p ∈ l, Came w w.heap.size p) (hr : Row w w.heap.size A (fcs l)) :
    Calls Try.prog 5 #[.slice A n c, .int .i64 at_] w fun e w' => e = .returned (.bool true) ∧ Below w.heap.size w w' := by
  obtain ⟨fs0, N, hp, hN60⟩ := pack hl hnc hc hcame
  have HP := hide hp
  have HFI := hide (show ∀ p ∈ (l.take 60).map cutV, wi.Fits p.1 from fun p hq => hp.fits p.1 (by rw [← hp.few]; exact List.mem_map_of_mem hq))
  have HLN := hide (show ((l.take 60).map cutV).length = N by have h := congrArg List.length hp.few; rw [List.length_map, hp.flen] at h; exact h)
  clear hl hnc hc hcame hp
  go_enter Try.func5, Try.ntmps5
  go_wp2_with fail
  refine (shown_any w).mono ?_
  rintro e w1 ⟨rfl, hb1⟩
  have HL1 := hide (show Le w w1 from hb1)
  clear hb1
  go_wp2_with fail
  refine (few_pack HP.out HL1.out hr).mono ?_
  rintro e w2 ⟨A2, c2, rfl, hr2, hh2, hl2⟩
  have HR2 := hide hr2
  have HH2 := hide hh2
  have HL2 := hide (HL1.out.trans hl2)
  clear hr2 hh2 hl2 hr HP
  generalize (l.take 60).map cutV = l2 at HR2 HH2 HFI HLN
  go_wp2_with fail
  obtain ⟨W0, hW0⟩ : ∃ W0, w2.alloc (.cells #[] 36) = W0 := ⟨_, rfl⟩
  rw [hW0]
  have hs1 : W0.ownsRow w2.heap.size 36 4 (.slice (some ⟨w2.heap.size, 0, none⟩) 0 0) 0 (fcs []) := by rw [← hW0]; exact World.ownsRow_lit _ #[] 0 (Nat.le_refl _) (by simp) rfl
  have hs2 : Below w2.heap.size w2 W0 := by rw [← hW0]; exact (Below.refl _ _).alloc (Nat.le_refl _) _
  clear hW0
  go_loopw [6, 7] (fun v i wr => ∃ (k K c3 : Nat) (A3 : Option Addr), k ≤ N ∧ i = .int .i64 k ∧ v = .slice A3 K c3 ∧ Hid ((selV (l2.take k)).length = K) ∧ K ≤ k ∧ Hid (wr.ownsRow w2.heap.size 36 4 (.slice A3 K c3) K (fcs (selV (l2.take k)))) ∧ Hid (Below w2.heap.size w2 wr)) (fun _ i _ => N - (intOf i).toNat)
  case atStart => exact ⟨0, 0, 0, _, Nat.zero_le _, rfl, rfl, hide rfl, Nat.le_refl _, hide (by simpa [selV] using hs1), hide hs2⟩
  case round =>
    obtain ⟨k, K, c3, A3, hk, rfl, rfl, HK, hKk, HO, HB⟩ := hrel
    have hz := HB.out.size
    by_cases hkn : k < N
    · obtain ⟨p, hx⟩ : ∃ x, l2[k]? = some x := ⟨_, List.getElem?_eq_getElem (by rw [HLN.out]; omega)⟩
      obtain ⟨bA, oA, rfl, hbA, d0, d1, d2, d3⟩ := elem_cells HR2.out hx HB.out (Nat.le_refl _)
      have HS := hide (selV_succ hx)
      obtain ⟨⟨tag, isB, u, b⟩, Ab, cb⟩ := p
      simp only at d0 d1 d2 d3
      obtain ⟨nb, hnb⟩ : ∃ nb, b.length = nb := ⟨_, rfl⟩
      rw [hnb] at d3
      have HNB := hide hnb
      clear hx hnb
      cases isB
      · by_cases ht1 : tag < 1
        · have HN := hide (show selV (l2.take (k + 1)) = selV (l2.take k) by rw [HS.out, if_neg (by simp [normV, wi.ok]; omega), List.append_nil])
          go_wp2_with fail
          exact ⟨⟨k + 1, K, c3, A3, by omega, by go_num, rfl, hide (by rw [HN.out]; exact HK.out), by omega, hide (by rw [HN.out]; exact HO.out.alloc _), hide (HB.out.alloc hz _)⟩, by simp [intOf]; omega⟩
        by_cases ht2 : 100 < tag
        · have HN := hide (show selV (l2.take (k + 1)) = selV (l2.take k) by rw [HS.out, if_neg (by simp [normV, wi.ok]; omega), List.append_nil])
          go_wp2_with fail
          exact ⟨⟨k + 1, K, c3, A3, by omega, by go_num, rfl, hide (by rw [HN.out]; exact HK.out), by omega, hide (by rw [HN.out]; exact HO.out.alloc _), hide (HB.out.alloc hz _)⟩, by simp [intOf]; omega⟩
        have ht1' : 1 ≤ tag := by omega
        have ht2' : tag ≤ 100 := by omega
        have HN := hide (show fcs (selV (l2.take (k + 1))) = fcs (selV (l2.take k)) ++ [.int .i64 tag, .bool false, .int .u64 (u : Int), .slice none 0 0] by
          rw [HS.out, if_pos (by simp [normV, wi.ok]; omega), fcs_append]
          simp [normV, fcs, cellsF])
        have HKN := hide (show (selV (l2.take (k + 1))).length = K + 1 by rw [HS.out, if_pos (by simp [normV, wi.ok]; omega), List.length_append, HK.out]; rfl)
        obtain ⟨V, hV⟩ : ∃ V, wr.alloc (.cells #[.int .i64 tag, .bool false, .int .u64 (u : Int), .slice none 0 0] 36) = V := ⟨_, rfl⟩
        have hB1 : Below w2.heap.size w2 V := by rw [← hV]; exact HB.out.alloc hz _
        have hO1 : V.ownsRow w2.heap.size 36 4 (.slice A3 K c3) K (fcs (selV (l2.take k))) := by rw [← hV]; exact HO.out.alloc _
        have hz1 : V.heap.size = wr.heap.size + 1 := by rw [← hV]; simp
        have HV := hide hV
        have HB1 := hide hB1
        have HO1 := hide hO1
        have hrow := hide (row_cells4 V (.int .i64 tag) (.bool false) (.int .u64 (u : Int)) (.slice none 0 0) 36)
        rw [hz1] at hrow
        clear hV hB1 hO1
        go_wp2_with (at_builtin; rw [HV.out]; refine wpList_append_row _ rfl (.tmp 42) (.tmp 44) 22 rfl w2.heap.size 36 infoRF Try.underlying22 rfl (by omega) (.slice A3 K c3) K _ rfl (HO1.out.alloc _) _ (some ⟨wr.heap.size + 1, 0, none⟩) 1 1 _ rfl rfl hrow.out (by intro z hz; simp at hz; rcases hz with rfl | rfl | rfl | rfl <;> rfl) (by simp only [maxLen]; omega) (by omega) (by simp; omega) ?_; intro v' w' hown' hg hat; have hbb := below_own hg (Nat.le_refl w2.heap.size) (by simp; omega) (fun g h => own_ge HO1.out h (Nat.le_refl _)); have HB' := hide ((HB1.out.alloc (by omega) _).trans hbb); obtain ⟨A', c', rfl, -, -⟩ := own_form hown'; have HO' := hide hown'; clear hown' hg hat hbb)
        exact ⟨⟨k + 1, K + 1, c', A', by omega, by go_num, rfl, HKN, by omega, hide (by rw [HN.out]; exact HO'.out), HB'⟩, by simp [intOf]; omega⟩
      · by_cases ht1 : tag < 1
        · have HN := hide (show selV (l2.take (k + 1)) = selV (l2.take k) by rw [HS.out, if_neg (by simp [normV, wi.ok]; omega), List.append_nil])
          go_wp2_with fail
          exact ⟨⟨k + 1, K, c3, A3, by omega, by go_num, rfl, hide (by rw [HN.out]; exact HK.out), by omega, hide (by rw [HN.out]; exact HO.out.alloc _), hide (HB.out.alloc hz _)⟩, by simp [intOf]; omega⟩
        by_cases ht2 : 100 < tag
        · have HN := hide (show selV (l2.take (k + 1)) = selV (l2.take k) by rw [HS.out, if_neg (by simp [normV, wi.ok]; omega), List.append_nil])
          go_wp2_with fail
          exact ⟨⟨k + 1, K, c3, A3, by omega, by go_num, rfl, hide (by rw [HN.out]; exact HK.out), by omega, hide (by rw [HN.out]; exact HO.out.alloc _), hide (HB.out.alloc hz _)⟩, by simp [intOf]; omega⟩
        have ht1' : 1 ≤ tag := by omega
        have ht2' : tag ≤ 100 := by omega
        have HN := hide (show fcs (selV (l2.take (k + 1))) = fcs (selV (l2.take k)) ++ [.int .i64 tag, .bool true, .int .u64 0, .slice Ab nb cb] by
          rw [HS.out, if_pos (by simp [normV, wi.ok]; omega), fcs_append]
          simp [normV, fcs, cellsF, HNB.out])
        have HKN := hide (show (selV (l2.take (k + 1))).length = K + 1 by rw [HS.out, if_pos (by simp [normV, wi.ok]; omega), List.length_append, HK.out]; rfl)
        obtain ⟨V, hV⟩ : ∃ V, wr.alloc (.cells #[.int .i64 tag, .bool true, .int .u64 0, .slice Ab nb cb] 36) = V := ⟨_, rfl⟩
        have hB1 : Below w2.heap.size w2 V := by rw [← hV]; exact HB.out.alloc hz _
        have hO1 : V.ownsRow w2.heap.size 36 4 (.slice A3 K c3) K (fcs (selV (l2.take k))) := by rw [← hV]; exact HO.out.alloc _
        have hz1 : V.heap.size = wr.heap.size + 1 := by rw [← hV]; simp
        have HV := hide hV
        have HB1 := hide hB1
        have HO1 := hide hO1
        have hrow := hide (row_cells4 V (.int .i64 tag) (.bool true) (.int .u64 0) (.slice Ab nb cb) 36)
        rw [hz1] at hrow
        clear hV hB1 hO1
        go_wp2_with (at_builtin; rw [HV.out]; refine wpList_append_row _ rfl (.tmp 42) (.tmp 44) 22 rfl w2.heap.size 36 infoRF Try.underlying22 rfl (by omega) (.slice A3 K c3) K _ rfl (HO1.out.alloc _) _ (some ⟨wr.heap.size + 1, 0, none⟩) 1 1 _ rfl rfl hrow.out (by intro z hz; simp at hz; rcases hz with rfl | rfl | rfl | rfl <;> rfl) (by simp only [maxLen]; omega) (by omega) (by simp; omega) ?_; intro v' w' hown' hg hat; have hbb := below_own hg (Nat.le_refl w2.heap.size) (by simp; omega) (fun g h => own_ge HO1.out h (Nat.le_refl _)); have HB' := hide ((HB1.out.alloc (by omega) _).trans hbb); obtain ⟨A', c', rfl, -, -⟩ := own_form hown'; have HO' := hide hown'; clear hown' hg hat hbb)
        exact ⟨⟨k + 1, K + 1, c', A', by omega, by go_num, rfl, HKN, by omega, hide (by rw [HN.out]; exact HO'.out), HB'⟩, by simp [intOf]; omega⟩
    · obtain rfl : k = N := by omega
      have HT := hide (show l2.take k = l2 from List.take_of_length_le (by rw [HLN.out]; exact Nat.le_refl _))
      rw [HT.out] at HK HO
      have HSF := hide (sel_fits HFI.out)
      have HLB := hide (show Le w2 wr from HB.out)
      have HSH := hide (sel_held (HH2.out.le HLB.out))
      have HRS := hide (Row.of_own HO.out)
      generalize selV l2 = l3 at HK HSF HSH HRS
      obtain ⟨fs, hfs⟩ : ∃ fs, l3.map (·.1) = fs := ⟨_, rfl⟩
      rw [hfs] at HSF
      have HFS := hide hfs
      have HFT := hide (show ∀ f ∈ fs, wi.Fits f from fun f hf => (HSF.out f hf).1)
      have HPUT := hide (wi.put_ok (l := fs) fun j f hf => (HSF.out f (List.mem_of_getElem? hf)).2.1)
      have HTAKE := hide (wi.take_enc fs HSF.out)
      have HE8 := hide (wi.enc8 HFT.out)
      have HEL := hide (wi.enc_len fs HFT.out (fun f hf => (HSF.out f hf).2.1))
      have HFL := hide (show fs.length = K by rw [← HFS.out, List.length_map, HK.out])
      rw [HFL.out] at HEL
      clear hfs HO
      go_wp2_with fail
      refine (own_any wr A3 K c3 l3 HK.out (by omega) (fun p hp => by
        have := (HFT.out p.1 (by rw [← HFS.out]; exact List.mem_map_of_mem hp)).2.2
        omega) HRS.out HSH.out).mono ?_
      rintro e w3 ⟨A4, c4, l4, rfl, hl4, hown4, ⟨hsep4, -⟩, hb4⟩
      have HR4 := hide (Row.of_own hown4)
      have HH4 := hide hsep4.held
      have HF4 := hide (hl4.trans HFS.out)
      have HL34 := hide (show Le wr w3 from hb4)
      clear hown4 hsep4 hb4 hl4
      go_wp2_with fail
      refine (put_pack HF4.out HFL.out (by omega) HFT.out HR4.out HH4.out).mono ?_
      rintro e w4 ⟨v5, rfl, hown5, hb5⟩
      rw [HPUT.out] at hown5 ⊢
      simp only at hown5
      obtain ⟨M, hM⟩ : ∃ M, (wi.enc fs).length = M := ⟨_, rfl⟩
      rw [hM] at hown5 HEL
      have HM := hide hM
      obtain ⟨A5, c5, rfl, hc5, hc5'⟩ := own_form hown5
      have HR5 := hide (Row.of_own hown5)
      have HL35 := hide (HL34.out.trans hb5)
      have hMb : M ≤ 19200 := by have := HEL.out; omega
      clear hown5 hb5 hM
      go_wp2_with fail
      refine (wtake_any w4 A5 M c5 (wi.enc fs) HM.out (by omega) hc5 hc5' HE8.out HR5.out).mono ?_
      rintro e w5 h
      rcases h with ⟨h1, -, -⟩ | ⟨o, A6, K6, c6, h1, hoK, hoM, rfl, hr6, hh6, h86, hb6⟩
      · rw [HTAKE.out] at h1; cases h1
      rw [HTAKE.out] at h1
      injection h1 with h1
      obtain rfl : K6 = K := by rw [← hoK, ← HFL.out, h1, List.length_map]
      have HOF := hide (show o.map (·.1) = l3.map (·.1) by rw [← h1, HFS.out])
      have HOK := hide hoK
      have HO8 := hide h86
      have HR6 := hide hr6
      have HH6 := hide hh6
      have HL45 := hide hb6
      have HL05 := hide (HL35.out.trans hb6)
      clear h1 hoK hoM hr6 hh6 h86 hb6
      go_wp2_with fail
      refine (same_any w5 A6 A3 K6 c6 c3 o l3 HOK.out (by omega) HOF.out HO8.out HR6.out (HRS.out.le HL05.out) HH6.out (HSH.out.le HL05.out)).mono ?_
      rintro e w6 ⟨rfl, hb7⟩
      have HL46 := hide (HL45.out.trans hb7)
      have HF6 := hide (show Le w w6 from HL2.out.trans (HLB.out.trans (HL35.out.trans HL46.out)))
      clear hb7
      by_cases ha0 : at_ < 0
      · go_wp2_with fail
        go_ret
        exact ⟨rfl, HF6.out⟩
      · by_cases ha1 : (M : Int) ≤ at_
        · go_wp2_with fail
          go_ret
          exact ⟨rfl, HF6.out⟩
        · obtain ⟨a, rfl⟩ : ∃ a : Nat, at_ = (a : Int) := ⟨at_.toNat, by omega⟩
          have haM : a < M := by omega
          have hac : a ≤ c5 := by omega
          have HRT := hide ((HR5.out.le HL46.out).take a)
          rw [u8s_take] at HRT
          have HCUT := hide (fun gs (hg : wi.take ((wi.enc fs).take a) = some gs) => wi.take_cut HTAKE.out (by rw [HM.out]; exact haM) hg)
          go_wp2_with fail
          refine (wtake_any w6 A5 a c5 ((wi.enc fs).take a) (by rw [List.length_take, HM.out]; omega) (by omega) hac hc5' (take8 HE8.out a) HRT.out).mono ?_
          rintro e w7 h
          rcases h with ⟨h1, rfl, hb8⟩ | ⟨o2, A8, K8, c8, h1, hoK, hoM, rfl, -, -, -, hb8⟩
          · have HF7 := hide (show Le w w7 from HF6.out.trans hb8)
            clear h1 hb8
            go_wp2_with fail
            go_ret
            exact ⟨rfl, HF7.out⟩
          · have HF7 := hide (show Le w w7 from HF6.out.trans hb8)
            have hlt := HCUT.out _ h1
            rw [List.length_map, hoK, HFL.out] at hlt
            have hlti : (K8 : Int) < K6 := by omega
            clear h1 hb8 hoM hoK
            go_wp2_with fail
            go_ret
            exact ⟨rfl, HF7.out⟩
#print axioms back_walk
end Go.Proofs.Ytjliocbdidiemaa
