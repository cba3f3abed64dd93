/-
  The law on what is read, walked (written by genPlZ.py).
-/
import Derived.Test.YtnihladjafnjpaaPlX
import Derived.Test.YtnihladjafnjpaaPlY
import Derived.Test.YtnihladjafnjpaaListG
namespace Go.Proofs.Ytnihladjafnjpaa
open Go.RowKit
set_option linter.unusedVariables false

set_option maxRecDepth 100000 in
set_option maxHeartbeats 8000000 in
theorem reads_walk (w : World) (H : Int) (DA A B : Option Addr) (dn dc n c m d : Nat) (ds : List dr.Dr) (l s : List Int) (hd : ds.length = dn) (hdc : dn ≤ dc) (hdm : dc ≤ maxLen) (hl : l.length = n) (hnc : n ≤ c) (hc : c ≤ maxLen) (hs : s.length = m) (hmd : m ≤ d) (hdd : d ≤ maxLen) (hrd : Row w w.heap.size DA (dcs ds)) (hr : Row w w.heap.size A (ints l)) (hrs : Row w w.heap.size B (ints s)) :
    Calls Try.prog 5 #[.slice DA dn dc, .agg #[.int .i64 H, .slice A n c], .slice B m d] w fun e w' => e = .returned (.bool true) ∧ Below w.heap.size w w' := by
  obtain ⟨n2, hn2⟩ : ∃ n2, min n 30 = n2 := ⟨_, rfl⟩
  obtain ⟨m2, hm2⟩ : ∃ m2, min m 30 = m2 := ⟨_, rfl⟩
  obtain ⟨k2, hk2⟩ : ∃ k2, min dn 40 = k2 := ⟨_, rfl⟩
  have HL := hide (show (l.take 30).length = n2 by rw [List.length_take, hl, ← hn2]; omega)
  have HS := hide (show (s.take 30).length = m2 by rw [List.length_take, hs, ← hm2]; omega)
  have HD := hide (show (ds.take 40).length = k2 by rw [List.length_take, hd, ← hk2]; omega)
  have hr2 := hr.take 30
  rw [ints_take] at hr2
  have hrs2 := hrs.take 30
  rw [ints_take] at hrs2
  have hrd2 := hrd.take (40 * 3)
  rw [dcs_take] at hrd2
  generalize l.take 30 = l2 at HL hr2
  generalize s.take 30 = s2 at HS hrs2
  generalize ds.take 40 = d2 at HD hrd2
  have hn30 : n2 ≤ 30 := by omega
  have hm30 : m2 ≤ 30 := by omega
  have hk40 : k2 ≤ 40 := by omega
  have hnc2 : n2 ≤ c := by omega
  have HRL := hide hr2
  have HRS := hide hrs2
  have HRD := hide hrd2
  have HN2 := hide hn2
  have HM2 := hide hm2
  have HK2 := hide hk2
  have h40 : dn ≤ 40 ∨ 40 < dn := by omega
  unfold maxLen at hdm
  clear hd hl hs hr hrs hrd hn2 hm2 hk2 hr2 hrs2 hrd2
  go_enter Try.func5, Try.ntmps5
  go_wp2_with fail
  obtain ⟨W, hW⟩ : ∃ W, w.alloc (.cells #[.int .i64 H, .slice A n c] 24) = W := ⟨_, rfl⟩
  have bx : Box W w.heap.size #[.int .i64 H, .slice A n c] 24 := by rw [← hW]; exact box_new _ _ _
  have hLW : Le w W := by rw [← hW]; exact (Below.refl _ _).alloc (Nat.le_refl _) _
  rw [hW]
  clear hW
  refine (shown_any W).mono ?_
  rintro e w1 ⟨rfl, hb1⟩
  have bx1 := bx.below hb1 bx.lt
  have c0 := bx1.cell 0 (.int .i64 H) rfl
  have c1 := bx1.cell 1 (.slice A n c) rfl
  have BX1 := hide bx1
  have HL1 := hide (show Le w w1 from hLW.trans hb1)
  clear hb1 hLW bx bx1
  go_wp2_with fail
  refine (less_any w1 H A n c n2 HN2.out hnc hc).mono ?_
  rintro e w2 ⟨rfl, hb2⟩
  have bx2 := BX1.out.below hb2 BX1.out.lt
  have d0 := bx2.cell 0 (.int .i64 H) rfl
  have d1 := bx2.cell 1 (.slice A n c) rfl
  have f0 := bx2.frozen 0
  have f1 := bx2.frozen 1
  have BX2 := hide bx2
  have HL2 := hide (show Le w w2 from HL1.out.trans hb2)
  clear hb2 bx2 c0 c1
  go_wp2_with fail
  obtain ⟨W3, hW3⟩ : ∃ W3, (w2.setCell ⟨w.heap.size, 0, none⟩ (.int .i64 H)).setCell ⟨w.heap.size, 1, none⟩ (.slice A n2 c) = W3 := ⟨_, rfl⟩
  have bx3 : Box W3 w.heap.size #[.int .i64 H, .slice A n2 c] 24 := by rw [← hW3]; exact (BX2.out.set 0 _).set 1 _
  have hL3 : Le w W3 := by rw [← hW3]; exact (HL2.out.setCell (Nat.le_refl _) _).setCell (Nat.le_refl _) _
  rw [hW3]
  have BX3 := hide bx3
  have HL3 := hide hL3
  clear hW3 bx3 hL3 d0 d1 f0 f1
  refine (few_any W3 B m d hmd hdd).mono ?_
  rintro e w' ⟨rfl, rfl⟩
  rw [HM2.out]
  clear BX1 BX2 HL1 HL2
  go_upto_region 4 with fail
  go_upto_if 20 with fail
  go_cut [0] (fun s0 wx => s0 = .slice DA k2 dc ∧ W3 = wx)
  case first =>
    rcases h40 with h | h
    · obtain rfl : dn = k2 := by have := HK2.out; omega
      go_wp2_with fail
      go_meet
      exact ⟨rfl, rfl⟩
    · obtain rfl : k2 = 40 := by have := HK2.out; omega
      have hI : (40 : Int) < dn := by omega
      have hI2 : (40 : Int) ≤ dc := by omega
      go_wp2_with fail
      go_meet
      exact ⟨rfl, rfl⟩
  case rest =>
    obtain ⟨rfl, rfl⟩ := hcut
    clear h40
    have c0 := BX3.out.cell 0 (.int .i64 H) rfl
    have c1 := BX3.out.cell 1 (.slice A n2 c) rfl
    have hpl := hide (plan_any W3 DA A B k2 dc n2 c m2 d d2 H l2 s2 HD.out (by omega) HL.out (by omega) HS.out (by omega) ((HL3.out.row HRD.out (Nat.le_refl _)).more HL3.out.size) ((HL3.out.row HRL.out (Nat.le_refl _)).more HL3.out.size) ((HL3.out.row HRS.out (Nat.le_refl _)).more HL3.out.size))
    go_wp2_with fail
    refine hpl.out.mono ?_
    rintro e w4 ⟨C, k, cc, o, code, rfl, hk, hk1, hpn, hrc, hb⟩
    have HL4 := hide (show Le w w4 from HL3.out.trans hb)
    have BX4 := hide (BX3.out.below hb BX3.out.lt)
    have HP := hide hpn
    have HRC := hide hrc
    have HK := hide hk
    have e0 := BX4.out.cell 0 (.int .i64 H) rfl
    have e1 := BX4.out.cell 1 (.slice A n2 c) rfl
    clear hb hpn hrc hk c0 c1 hpl
    by_cases hz : code = 0
    · subst hz
      obtain ⟨h, rfl, hh1, hh2⟩ := check_facts (planned_ok HP.out)
      rw [HS.out] at hh1
      go_wp2_with fail
      go_loopw [10] (fun i wr => ∃ q : Nat, i = .int .i64 ((q : Int) + 1) ∧ q ≤ h ∧ Hid (Le w4 wr)) (fun i _ => h + 1 - (intOf i).toNat)
      case atStart => exact ⟨0, rfl, Nat.zero_le _, hide (Le.refl _)⟩
      case round =>
        clear e0 e1
        obtain ⟨q, rfl, hq, HLr⟩ := hrel
        obtain ⟨Z, rfl⟩ : ∃ Z, Z = wr := ⟨_, rfl⟩
        have BXr := hide (BX4.out.below HLr.out BX4.out.lt)
        have c0 := BXr.out.cell 0 (.int .i64 (h : Int)) rfl
        have c1 := BXr.out.cell 1 (.slice A n2 c) rfl
        by_cases hqh : q < h
        · obtain ⟨st, hst⟩ : ∃ st, s2[q]? = some st := ⟨_, List.getElem?_eq_getElem (by rw [HS.out]; omega)⟩
          have hF := read_facts HP.out hst
          obtain ⟨bS, oS, rfl, hbS, cS⟩ := HRS.out.at_ (ints_at hst)
          have hle : decide ((q : Int) + 1 ≤ h) = true := decide_eq_true (by omega)
          have hqm : (q : Int) < m2 := by omega
          have hadd : IntKind.i64.wrap ((q : Int) + 1 + 1) = (q : Int) + 1 + 1 := by rw [IntWalk.i64_in _ (by omega)]
          obtain ⟨id, hid⟩ : ∃ id : Int, (q : Int) + 1 = id := ⟨_, rfl⟩
          have hsub : IntKind.i64.wrap (id - 1) = (q : Int) := by rw [IntWalk.i64_in _ (by omega)]; omega
          rw [hid] at hle hF hadd ⊢
          have HF := hide hF
          have HID := hide hid
          have hha := hide (fun (X : World) (h' : Le Z X) => has_any X h A n2 c l2 id HL.out (by omega) (((HL4.out.trans (HLr.out.trans h')).row HRL.out (Nat.le_refl _)).more (HL4.out.trans (HLr.out.trans h')).size))
          obtain ⟨hv, hhv⟩ : ∃ b, has h l2 id = b := ⟨_, rfl⟩
          rw [hhv] at hha
          have HHV := hide hhv
          clear hst hF hid hhv
          go_wp2_with fail
          go_loopw [11, 12] (fun a b wr => ∃ j : Nat, a = .int .i64 (cntI (o.take j) id : Nat) ∧ b = .int .i64 j ∧ j ≤ k ∧ wr = Z) (fun _ b _ => k - (intOf b).toNat)
          case atStart => exact ⟨0, rfl, rfl, Nat.zero_le _, rfl⟩
          case round =>
            obtain ⟨j, rfl, rfl, hj, rfl⟩ := hrel
            by_cases hjk : j < k
            · obtain ⟨⟨uk, uf, ut⟩, hu⟩ : ∃ u, o[j]? = some u := ⟨_, List.getElem?_eq_getElem (by rw [HK.out]; exact hjk)⟩
              obtain ⟨bA, oA, rfl, hbA, -, r1, r2⟩ := row_dr HRC.out hu
              simp only at r1 r2
              have hjI : (j : Int) < k := by omega
              have q1 : wr.cell? ⟨bA, oA + j * 3 + 1, none⟩ = some (.int .i64 uf) := (HLr.out.cell (p := ⟨bA, oA + j * 3 + 1, none⟩) hbA).trans r1
              have q2 : wr.cell? ⟨bA, oA + j * 3 + 2, none⟩ = some (.int .i64 ut) := (HLr.out.cell (p := ⟨bA, oA + j * 3 + 2, none⟩) hbA).trans r2
              obtain ⟨p1, hp1⟩ : ∃ b, decide (uf ≤ id) = b := ⟨_, rfl⟩
              obtain ⟨p2, hp2⟩ : ∃ b, decide (id ≤ ut) = b := ⟨_, rfl⟩
              have HC := hide (show cntI (o.take (j + 1)) id = cntI (o.take j) id + (if p1 && p2 then 1 else 0) by
                rw [cnt_take hu, ← hp1, ← hp2]
                rfl)
              have hcj : cntI (o.take j) id ≤ j := Nat.le_trans (List.length_filter_le _ _) (by rw [List.length_take]; exact Nat.min_le_left _ _)
              obtain ⟨N, hN⟩ : ∃ N, cntI (o.take j) id = N := ⟨_, rfl⟩
              rw [hN] at HC hcj ⊢
              clear hN hu r1 r2
              cases p1 <;> cases p2
              all_goals
                go_wp2_with fail
                exact ⟨⟨j + 1, by rw [HC.out]; go_num, by go_num, by omega, trivial⟩, by simp [intOf]; omega⟩
            · obtain rfl : j = k := by omega
              rw [List.take_of_length_le (show o.length ≤ j by rw [HK.out]; exact Nat.le_refl _)]
              obtain ⟨N, hN⟩ : ∃ N, cntI o id = N := ⟨_, rfl⟩
              have HN1 := hide (show N ≤ 1 by rw [← hN]; exact HF.out.1)
              have HN2 := hide (show hv = true → N = 1 from fun e => by rw [← hN]; exact HF.out.2.1 (HHV.out.trans e))
              rw [hN]
              clear hN
              obtain ⟨Z, rfl⟩ : ∃ Z, Z = wr := ⟨_, rfl⟩
              have hh0 := hide (hha.out Z (Le.refl _))
              go_upto_region 18 with fail
              go_cut [78] (fun s wx => s = .bool false ∧ Hid (Le Z wx))
              case first =>
                have hle1 : decide ((1 : Int) < N) = false := decide_eq_false (by have := HN1.out; omega)
                cases hv
                · go_wp2_with fail
                  refine hh0.out.mono ?_
                  rintro e w5 ⟨rfl, hb⟩
                  have HB5 := hide (show Le Z w5 from hb)
                  clear hb
                  go_wp2_with fail
                  go_meet
                  exact ⟨rfl, HB5⟩
                · obtain rfl : N = 1 := HN2.out rfl
                  go_wp2_with fail
                  refine hh0.out.mono ?_
                  rintro e w5 ⟨rfl, hb⟩
                  have HB5 := hide (show Le Z w5 from hb)
                  clear hb
                  go_wp2_with fail
                  go_meet
                  exact ⟨rfl, HB5⟩
              case rest =>
                obtain ⟨rfl, HLc⟩ := hcut
                have BXc := hide (BXr.out.below HLc.out BXr.out.lt)
                have z0 := BXc.out.cell 0 (.int .i64 (h : Int)) rfl
                have z1 := BXc.out.cell 1 (.slice A n2 c) rfl
                have zs : wc.cell? ⟨bS, oS + q, none⟩ = some (.int .i64 st) := ((HL4.out.trans (HLr.out.trans HLc.out)).cell (p := ⟨bS, oS + q, none⟩) hbS).trans cS
                have hh1 := hide (hha.out wc HLc.out)
                clear c0 c1 cS hh0 hha
                go_upto_region 20 with fail
                go_cut [110] (fun s wx => s = .bool false ∧ Hid (Le Z wx))
                case first =>
                  by_cases hj0 : 0 < j
                  · obtain ⟨⟨uk, uf, ut⟩, o', rfl⟩ : ∃ u o', o = u :: o' := by
                      cases o with
                      | nil => have := HK.out; simp at this; omega
                      | cons u o' => exact ⟨u, o', rfl⟩
                    obtain ⟨bA, oA, rfl, hbA, r0, -, r2⟩ := row_dr (k := 0) HRC.out rfl
                    simp only [Nat.zero_mul, Nat.add_zero] at r0 r2
                    have hjI : (0 : Int) < j := by omega
                    have q0 : wc.cell? ⟨bA, oA, none⟩ = some (.int .i64 uk) := ((HLr.out.trans HLc.out).cell (p := ⟨bA, oA, none⟩) hbA).trans r0
                    have q2 : wc.cell? ⟨bA, oA + 2, none⟩ = some (.int .i64 ut) := ((HLr.out.trans HLc.out).cell (p := ⟨bA, oA + 2, none⟩) hbA).trans r2
                    obtain ⟨p1, hp1⟩ : ∃ b, (uk == 1) = b := ⟨_, rfl⟩
                    obtain ⟨p2, hp2⟩ : ∃ b, decide (id ≤ ut) = b := ⟨_, rfl⟩
                    obtain ⟨p3, hp3⟩ : ∃ b, (st == 2) = b := ⟨_, rfl⟩
                    have HALL := hide (show p1 = true → p2 = true → p3 = true → hv = true from fun e1 e2 e3 => by
                      rw [← hp1] at e1
                      rw [← hp2] at e2
                      rw [← hp3] at e3
                      exact HHV.out.symm.trans (HF.out.2.2 _ _ rfl (by simpa using e1) (of_decide_eq_true e2) (by simpa using e3)))
                    clear r0 r2
                    cases p1
                    · go_wp2_with fail
                      go_meet
                      exact ⟨rfl, HLc⟩
                    · cases p2
                      · go_wp2_with fail
                        go_meet
                        exact ⟨rfl, HLc⟩
                      · cases p3
                        · go_wp2_with fail
                          go_meet
                          exact ⟨rfl, HLc⟩
                        · obtain rfl : hv = true := HALL.out rfl rfl rfl
                          go_wp2_with fail
                          refine hh1.out.mono ?_
                          rintro e w5 ⟨rfl, hb⟩
                          have HB5 := hide (show Le Z w5 from HLc.out.trans hb)
                          clear hb
                          go_wp2_with fail
                          go_meet
                          exact ⟨rfl, HB5⟩
                  · obtain rfl : j = 0 := by omega
                    go_wp2_with fail
                    go_meet
                    exact ⟨rfl, HLc⟩
                case rest =>
                  obtain ⟨rfl, HLd⟩ := hcut
                  clear z0 z1 zs
                  have hidd := HID.out
                  go_wp2_with fail
                  exact ⟨⟨q + 1, by rw [← hidd]; congr 1, by omega, hide (HLr.out.trans HLd.out)⟩, by simp [intOf]; omega⟩
        · obtain rfl : q = h := by omega
          have hle : decide ((q : Int) + 1 ≤ q) = false := decide_eq_false (by omega)
          obtain ⟨id, hid⟩ : ∃ id : Int, (q : Int) + 1 = id := ⟨_, rfl⟩
          rw [hid] at hle ⊢
          clear hid hqh
          go_wp2_with fail
          go_ret
          exact ⟨rfl, HL4.out.trans HLr.out⟩
    · have ho : o = [] := by
        rcases HP.out with ⟨-, h, -⟩ | ⟨-, c', -, ⟨-, -, h⟩ | ⟨-, h, -⟩⟩
        · exact h
        · exact absurd h hz
        · exact h
      have hk0 : k = 0 := by rw [← HK.out, ho]; rfl
      subst hk0
      have hne : (code != 0) = true := by simpa using hz
      go_wp2_with fail
      go_ret
      exact ⟨rfl, HL4.out⟩
#print axioms reads_walk
end Go.Proofs.Ytnihladjafnjpaa
