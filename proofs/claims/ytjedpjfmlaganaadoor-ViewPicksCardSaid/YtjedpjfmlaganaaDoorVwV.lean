/-
  Rows with keys, sorted: slices' symMerge with one on the right, walked (written by genVwT.py).
-/
import Derived.Test.YtjedpjfmlaganaaDoorVwU
namespace Go.Proofs.YtjedpjfmlaganaaDoor.vw
open Go.RowKit Go.Sort Go.Shelf Go.Lib
set_option linter.unusedVariables false


set_option maxRecDepth 100000 in
set_option maxHeartbeats 8000000 in
theorem sym_right (blk off cap N : Nat) (d0 : Array (Kd × Nat)) (w0 : World) (R : RowK encK 4 w0 blk off d0) (h0 : d0.size = N) (hsz : N ≤ 1000000) (a m : Nat) (d : Array (Kd × Nat)) (w : World) (hd : d.size = N) (S : SWK encK 4 w0 blk off d w) (ham : a + 1 < m) (hbN : m + 1 ≤ N) (hs : Srt a m d) (hT : Tag a m (m + 1) d) :
    Calls Tryd.prog 63 #[.slice (some ⟨blk, off, none⟩) N cap, .int .i64 a, .int .i64 m, .int .i64 ((m : Int) + 1), .func (.func 39) #[] #[]] w fun e w' => e = .returned (.tuple #[]) ∧ ∃ d', SWK encK 4 w0 blk off d' w' ∧ PermIn a (m + 1) d d' ∧ Srt a (m + 1) d' := by
  have HR := hide R
  have HS0 := hide S
  have HSRT := hide hs
  have HTAG := hide hT
  have HZ : d.size = d0.size := by rw [hd, h0]
  have HZN := hide hd
  have HZ0 := hide h0
  obtain ⟨b, hb⟩ : ∃ b, m + 1 = b := ⟨_, rfl⟩
  have hbI : ((m : Int) + 1) = (b : Int) := by omega
  rw [hbI]
  obtain ⟨dl, hdl⟩ : ∃ dl, m - a = dl := ⟨_, rfl⟩
  have w1 : IntKind.i64.wrap ((m : Int) - (a : Int)) = (dl : Int) := by rw [IntWalk.i64_in _ (by omega)]; omega
  have w2 : IntKind.i64.wrap ((b : Int) - (m : Int)) = 1 := by rw [IntWalk.i64_in _ (by omega)]; omega
  have hne : ((dl : Int) == 1) = false := by
    rw [beq_eq_false_iff_ne]
    omega
  have he := enterOrder
  have hmN : (m : Int) < N := by omega
  have HBM := hide hb
  clear R S hs hT hd h0 hbI hdl
  go_enter Tryd.func63, Tryd.ntmps63
  go_wp2_with fail
  go_loopw [14, 15] (fun s t wr => ∃ (i j : Nat), s = .int .i64 i ∧ t = .int .i64 j ∧ a ≤ i ∧ i ≤ j ∧ j ≤ m ∧ Hid (∀ x, a ≤ x → x < i → Bef Kd.k d[x]! d[m]!) ∧ Hid (∀ x, j ≤ x → x < m → Bef Kd.k d[m]! d[x]!) ∧ Hid (SWK encK 4 w0 blk off d wr)) (fun s t _ => (intOf t).toNat - (intOf s).toNat)
  case atStart => exact ⟨a, m, rfl, rfl, Nat.le_refl _, by omega, Nat.le_refl _, hide (fun x h1 h2 => by omega), hide (fun x h1 h2 => by omega), HS0⟩
  case round =>
    clear w1 w2 hne
    obtain ⟨i, j, rfl, rfl, hi, hij, hj, H1, H2, HS⟩ := hrel
    by_cases hlt : i < j
    · have hle : decide ((i : Int) < j) = true := decide_eq_true (by omega)
      obtain ⟨sm, hsm⟩ : ∃ sm, i + j = sm := ⟨_, rfl⟩
      obtain ⟨h, hh⟩ : ∃ h, sm / 2 = h := ⟨_, rfl⟩
      have wsm : IntKind.i64.wrap ((i : Int) + (j : Int)) = (sm : Int) := by rw [IntWalk.i64_in _ (by omega)]; omega
      have wsu : IntKind.u64.wrap (sm : Int) = (sm : Int) := by rw [IntKind.wrap_u64]; omega
      have wsh : (sm : Int) / 2 = (h : Int) := by omega
      have wsi : IntKind.i64.wrap (h : Int) = (h : Int) := by rw [IntWalk.i64_in _ (by omega)]
      have hlo : i ≤ h := by omega
      have hhi : h < j := by omega
      have hhN : (h : Int) < N := by omega
      have hhn : h < N := by omega
      have HLT := hide (show d[h]!.2 < d[m]!.2 from HTAG.out h m (by omega) (by omega) (Nat.le_refl _) (by omega))
      have HIH := hide (And.intro hi (And.intro hlo hhi))
      clear hsm hh
      go_upto_region 17 with fail
      obtain ⟨x, hx⟩ : ∃ x, d[m]! = x := ⟨_, rfl⟩
      obtain ⟨y, hy⟩ : ∃ y, d[h]! = y := ⟨_, rfl⟩
      obtain ⟨V, hV⟩ : ∃ V, wr.drew = V := ⟨_, rfl⟩
      have SV := hide (show SWK encK 4 w0 blk off d V by rw [← hV]; exact HS.out.drew)
      obtain ⟨x0, x1, x2, x3⟩ := st_cells HR.out HZ SV.out (i := m) (by rw [HZN.out]; omega) hx
      obtain ⟨y0, y1, y2, y3⟩ := st_cells HR.out HZ SV.out (i := h) (by rw [HZN.out]; omega) hy
      have hbV := SV.out.lt HR.out.hblk
      have xc0 : ∀ W, Le V W → W.cell? ⟨blk, off + m * 4, none⟩ = _ := fun W hl => (hl.cell (p := ⟨blk, off + m * 4, none⟩) hbV).trans x0
      have xc1 : ∀ W, Le V W → W.cell? ⟨blk, off + m * 4 + 1, none⟩ = _ := fun W hl => (hl.cell (p := ⟨blk, off + m * 4 + 1, none⟩) hbV).trans x1
      have xc2 : ∀ W, Le V W → W.cell? ⟨blk, off + m * 4 + 2, none⟩ = _ := fun W hl => (hl.cell (p := ⟨blk, off + m * 4 + 2, none⟩) hbV).trans x2
      have xc3 : ∀ W, Le V W → W.cell? ⟨blk, off + m * 4 + 3, none⟩ = _ := fun W hl => (hl.cell (p := ⟨blk, off + m * 4 + 3, none⟩) hbV).trans x3
      have yc0 : ∀ W, Le V W → W.cell? ⟨blk, off + h * 4, none⟩ = _ := fun W hl => (hl.cell (p := ⟨blk, off + h * 4, none⟩) hbV).trans y0
      have yc1 : ∀ W, Le V W → W.cell? ⟨blk, off + h * 4 + 1, none⟩ = _ := fun W hl => (hl.cell (p := ⟨blk, off + h * 4 + 1, none⟩) hbV).trans y1
      have yc2 : ∀ W, Le V W → W.cell? ⟨blk, off + h * 4 + 2, none⟩ = _ := fun W hl => (hl.cell (p := ⟨blk, off + h * 4 + 2, none⟩) hbV).trans y2
      have yc3 : ∀ W, Le V W → W.cell? ⟨blk, off + h * 4 + 3, none⟩ = _ := fun W hl => (hl.cell (p := ⟨blk, off + h * 4 + 3, none⟩) hbV).trans y3
      have HCM := hide (vorder_any V x.1.k y.1.k x.1.A y.1.A x.1.n y.1.n x.1.c y.1.c)
      obtain ⟨rc, hrc⟩ : ∃ r, ordK x.1.k y.1.k = r := ⟨_, rfl⟩
      obtain ⟨bl, hbl⟩ : ∃ b, ltK x.1.k y.1.k = b := ⟨_, rfl⟩
      have hrl : decide (rc < 0) = bl := by rw [← hrc, ordK_lt, hbl]
      rw [hrc] at HCM
      have HX := hide hx
      have HY := hide hy
      have HBL := hide hbl
      have HV := hide hV
      clear hx hy hV hrc hbl x0 x1 x2 x3 y0 y1 y2 y3
      refine region_pi [(0, true), (1, true), (2, true), (3, true), (4, true), (5, true), (6, true), (7, true), (8, true), (9, false), (10, true), (11, true)] (by kernel_rfl) (by kernel_rfl) ?_
      simp only [opsPi, List.filterMap_cons, List.filterMap_nil, List.getElem?_toArray, List.getElem?_cons_zero, List.getElem?_cons_succ, Option.map_some]
      rw [HV.out]
      repeat (first | (refine pi_take (v := _) rfl (fun W hW => by go_simp <;> exact rfl) ?_; simp only [Act.put, List.setIfInBounds_toArray, List.set_cons_zero, List.set_cons_succ]) | (refine pi_skip rfl ?_; simp only [Act.put, List.setIfInBounds_toArray, List.set_cons_zero, List.set_cons_succ]))
      clear xc0 xc1 xc2 xc3 yc0 yc1 yc2 yc3
      refine pi_run ?_
      go_wp2_with fail
      refine HCM.out.mono ?_
      rintro e W1 ⟨rfl, hg⟩
      have HS1 := hide (gr_swk SV.out hg)
      have HLE := hide hg.le
      clear hg
      go_wp2_with fail
      refine ⟨HLE.out, ?_⟩
      repeat (first | (refine pi_take (v := _) rfl (fun W hW => by go_simp <;> exact rfl) ?_; simp only [Act.put, List.setIfInBounds_toArray, List.set_cons_zero, List.set_cons_succ]) | (refine pi_skip rfl ?_; simp only [Act.put, List.setIfInBounds_toArray, List.set_cons_zero, List.set_cons_succ]))
      refine pi_done ?_
      clear HCM HV
      cases bl
      · have H1' := hide (show ∀ x, a ≤ x → x < h + 1 → Bef Kd.k d[x]! d[m]! from fun z hz hzb => by
          have hb1 : Bef Kd.k d[h]! d[m]! := bef_key' HLT.out (by rw [HX.out, HY.out]; exact HBL.out)
          by_cases e : z = h
          · rw [e]; exact hb1
          · exact bef_trans (HSRT.out z h hz (by omega) (by omega)) hb1)
        go_wp2_with fail
        exact ⟨⟨h + 1, j, by go_num, rfl, by omega, by omega, hj, H1', H2, HS1⟩, by simp [intOf]; omega⟩
      · have H2' := hide (show ∀ x, h ≤ x → x < m → Bef Kd.k d[m]! d[x]! from fun z hz hzb => by
          have hb1 : Bef Kd.k d[m]! d[h]! := (bef_key HLT.out).2 (by rw [HX.out, HY.out]; exact HBL.out)
          by_cases e : z = h
          · rw [e]; exact hb1
          · exact bef_trans hb1 (HSRT.out h z (by omega) (by omega) hzb))
        go_wp2_with fail
        exact ⟨⟨i, h, rfl, rfl, hi, hlo, by omega, H1, H2', HS1⟩, by simp [intOf]; omega⟩
    · obtain rfl : i = j := by omega
      have hle : decide ((i : Int) < i) = false := decide_eq_false (by omega)
      have HIB := hide hj
      have HMI := hide hi
      go_wp2_with fail
      go_loopw [17] (fun s wr => ∃ (k : Nat) (dk : Array (Kd × Nat)), s = .int .i64 k ∧ i ≤ k ∧ k ≤ m ∧ dk.size = N ∧ Hid (PermIn a (m + 1) d dk) ∧ Hid (∀ x, dk[x]! = if x = k then d[m]! else if k < x ∧ x ≤ m then d[x - 1]! else d[x]!) ∧ Hid (SWK encK 4 w0 blk off dk wr)) (fun s _ => (intOf s).toNat - i)
      case atStart =>
        refine ⟨m, d, rfl, hj, Nat.le_refl _, HZN.out, hide (permIn_refl _ _ _), hide (fun x => ?_), HS⟩
        by_cases e : x = m
        · rw [if_pos e, e]
        · rw [if_neg e, if_neg (by omega)]
      case round =>
        clear HS
        obtain ⟨k, dk, rfl, hik, hkm, hsk, HP, HEL, HS⟩ := hrel
        by_cases hlt2 : i < k
        · have hle2 : decide ((i : Int) < k) = true := decide_eq_true (by omega)
          obtain ⟨kp, hkp⟩ : ∃ kp, k - 1 = kp := ⟨_, rfl⟩
          have wk : IntKind.i64.wrap ((k : Int) - 1) = (kp : Int) := by rw [IntWalk.i64_in _ (by omega)]; omega
          have hkN : (k : Int) < N := by omega
          have hk1N : (kp : Int) < N := by omega
          have hkn : k < N := by omega
          have hk1n : kp < N := by omega
          have hzd : dk.size = d0.size := by rw [hsk]; exact HZ0.out.symm
          have HP2 := hide (permIn_trans _ _ _ _ _ HP.out (swp_permIn dk a (m + 1) k kp (by omega) (by omega) (by omega) (by omega) (by omega)))
          have HEL2 := hide (show ∀ x, (swp dk k kp)[x]! = if x = kp then d[m]! else if kp < x ∧ x ≤ m then d[x - 1]! else d[x]! from fun x => by
            rw [swp_at dk k kp x (by omega) (by omega) (by omega), HEL.out k, HEL.out kp, HEL.out x]
            rw [if_neg (show ¬ kp = k by omega), if_neg (show ¬ (k < kp ∧ kp ≤ m) by omega), if_pos rfl]
            by_cases e : x = k
            · rw [if_pos e, if_neg (by omega), if_pos (by omega), e, hkp]
            · rw [if_neg e, if_neg e]
              by_cases e2 : x = kp
              · rw [if_pos e2, if_pos e2]
              · rw [if_neg e2, if_neg e2]
                by_cases e3 : k < x ∧ x ≤ m
                · rw [if_pos e3, if_pos (by omega)]
                · rw [if_neg e3, if_neg (by omega)])
          have HKP := hide (show i ≤ kp ∧ kp ≤ m ∧ kp < k by omega)
          clear hkp
          go_upto_region 23 with fail
          obtain ⟨x, hx⟩ : ∃ x, dk[k]! = x := ⟨_, rfl⟩
          obtain ⟨y, hy⟩ : ∃ y, dk[kp]! = y := ⟨_, rfl⟩
          obtain ⟨V, hV⟩ : ∃ V, wr.drew = V := ⟨_, rfl⟩
          have SV := hide (show SWK encK 4 w0 blk off dk V by rw [← hV]; exact HS.out.drew)
          obtain ⟨TT, hTT⟩ : ∃ TT : World → Prop, TT = SWK encK 4 w0 blk off dk := ⟨_, rfl⟩
          have cx : ∀ W, TT W → _ := fun W h => st_cells HR.out hzd (by rw [hTT] at h; exact h) (i := k) (by omega) hx
          have cy : ∀ W, TT W → _ := fun W h => st_cells HR.out hzd (by rw [hTT] at h; exact h) (i := kp) (by omega) hy
          have CX := hide cx
          have CY := hide cy
          have HT1 := hide (st_there HR.out hzd SV.out (i := k) (by omega))
          have HT2 := hide (st_there HR.out hzd SV.out (i := kp) (by omega))
          have HSW := hide (show SWK encK 4 w0 blk off (swp dk k kp) ((V.setCells blk (off + k * 4) (encK y)).setCells blk (off + kp * 4) (encK x)) by rw [← hx, ← hy]; exact SV.out.swap encK_len HR.out.hblk k kp (by omega) (by omega))
          have HTT := hide hTT
          have HV := hide hV
          clear hx hy hV hTT cx cy
          refine region_pig TT 15 [(0, 1), (1, 1), (2, 1), (3, 1), (4, 1), (5, 1), (6, 1), (7, 1), (8, 1), (9, 0), (10, 1), (11, 1), (12, 1), (13, 0), (14, 1), (15, 3), (16, 1), (17, 3)] (by kernel_rfl) (by kernel_rfl) (by rw [HV.out, HTT.out]; exact SV.out) ?_
          simp only [opsPiG, List.filterMap_cons, List.filterMap_nil, List.getElem?_toArray, List.getElem?_cons_zero, List.getElem?_cons_succ, Option.map_some]
          rw [HV.out]
          repeat (refine pig_any (v := _) rfl (fun W' => by go_simp <;> exact rfl) ?_; simp only [Act.put, List.setIfInBounds_toArray, List.set_cons_zero, List.set_cons_succ])
          refine pig_take (v := .agg #[.int .i64 y.1.k.id, .int .i64 y.1.k.bk, .int .i64 y.1.k.rw, .slice y.1.A y.1.n y.1.c]) rfl (fun W' hW' => ?_) ?_
          · obtain ⟨q0, q1, q2, q3⟩ := CY.out W' hW'
            go_simp
          simp only [Act.put, List.setIfInBounds_toArray, List.set_cons_zero, List.set_cons_succ]
          repeat (refine pig_any (v := _) rfl (fun W' => by go_simp <;> exact rfl) ?_; simp only [Act.put, List.setIfInBounds_toArray, List.set_cons_zero, List.set_cons_succ])
          refine pig_take (v := .agg #[.int .i64 x.1.k.id, .int .i64 x.1.k.bk, .int .i64 x.1.k.rw, .slice x.1.A x.1.n x.1.c]) rfl (fun W' hW' => ?_) ?_
          · obtain ⟨q0, q1, q2, q3⟩ := CX.out W' hW'
            go_simp
          simp only [Act.put, List.setIfInBounds_toArray, List.set_cons_zero, List.set_cons_succ]
          repeat (refine pig_any (v := _) rfl (fun W' => by go_simp <;> exact rfl) ?_; simp only [Act.put, List.setIfInBounds_toArray, List.set_cons_zero, List.set_cons_succ])
          refine pig_late ?_
          go_wp2_with (refine wpList_store_mid rfl 37 _ _ rfl blk (off + k * 4) #[.int .i64 y.1.k.id, .int .i64 y.1.k.bk, .int .i64 y.1.k.rw, .slice y.1.A y.1.n y.1.c] rfl rfl HT1.out sizeK (kd_one y) ?_)
          repeat (refine pig_any (v := _) rfl (fun W' => by go_simp <;> exact rfl) ?_; simp only [Act.put, List.setIfInBounds_toArray, List.set_cons_zero, List.set_cons_succ])
          refine pig_late ?_
          go_wp2_with (refine wpList_store_mid rfl 37 _ _ rfl blk (off + kp * 4) #[.int .i64 x.1.k.id, .int .i64 x.1.k.bk, .int .i64 x.1.k.rw, .slice x.1.A x.1.n x.1.c] rfl rfl (there_set HT2.out) sizeK (kd_one x) ?_)
          repeat (refine pig_any (v := _) rfl (fun W' => by go_simp <;> exact rfl) ?_; simp only [Act.put, List.setIfInBounds_toArray, List.set_cons_zero, List.set_cons_succ])
          refine pig_done ?_
          obtain ⟨X, hX⟩ : ∃ X, (V.setCells blk (off + k * 4) #[.int .i64 y.1.k.id, .int .i64 y.1.k.bk, .int .i64 y.1.k.rw, .slice y.1.A y.1.n y.1.c].toList).setCells blk (off + kp * 4) #[.int .i64 x.1.k.id, .int .i64 x.1.k.bk, .int .i64 x.1.k.rw, .slice x.1.A x.1.n x.1.c].toList = X := ⟨_, rfl⟩
          have HS2 := hide (show SWK encK 4 w0 blk off (swp dk k kp) X by rw [← hX]; exact HSW.out)
          rw [hX]
          clear hX
          go_wp2_with fail
          exact ⟨⟨kp, swp dk k kp, rfl, HKP.out.1, HKP.out.2.1, by rw [size_swp]; exact hsk, HP2, HEL2, HS2⟩, by have := HKP.out; simp [intOf]; omega⟩
        · obtain rfl : i = k := by omega
          have hle2 : decide ((i : Int) < i) = false := decide_eq_false (by omega)
          have HFIN := hide (show Srt a (m + 1) dk from one_right (i := i) HSRT.out HMI.out HIB.out H1.out H2.out HEL.out)
          go_wp2_with fail
          refine bodyPost_ret (results_none rfl _ _ _) rfl ?_
          exact ⟨rfl, dk, HS.out, HP.out, HFIN.out⟩
#print axioms sym_right
end Go.Proofs.YtjedpjfmlaganaaDoor.vw
