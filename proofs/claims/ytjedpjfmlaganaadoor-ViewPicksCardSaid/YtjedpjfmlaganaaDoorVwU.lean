/-
  Rows with keys, sorted: slices' symMerge, walked (written by genVwT.py).
-/
import Derived.Test.YtjedpjfmlaganaaDoorVwT
namespace Go.Proofs.YtjedpjfmlaganaaDoor.vw
open Go.RowKit Go.Sort Go.Shelf Go.Lib
set_option linter.unusedVariables false


set_option maxRecDepth 100000 in
set_option maxHeartbeats 8000000 in
theorem sym_left (blk off cap N : Nat) (d0 : Array (Kd × Nat)) (w0 : World) (R : RowK encK 4 w0 blk off d0) (h0 : d0.size = N) (hsz : N ≤ 1000000) (a b : Nat) (d : Array (Kd × Nat)) (w : World) (hd : d.size = N) (S : SWK encK 4 w0 blk off d w) (hb : a + 1 < b) (hbN : b ≤ N) (hs : Srt (a + 1) b d) (hT : Tag a (a + 1) b d) :
    Calls Tryd.prog 63 #[.slice (some ⟨blk, off, none⟩) N cap, .int .i64 a, .int .i64 ((a : Int) + 1), .int .i64 b, .func (.func 39) #[] #[]] w fun e w' => e = .returned (.tuple #[]) ∧ ∃ d', SWK encK 4 w0 blk off d' w' ∧ PermIn a b d d' ∧ Srt a b d' := by
  have HR := hide R
  have HS0 := hide S
  have HSRT := hide hs
  have HTAG := hide hT
  have HZ : d.size = d0.size := by rw [hd, h0]
  have HZN := hide hd
  have HZ0 := hide h0
  obtain ⟨m, hm⟩ : ∃ m, a + 1 = m := ⟨_, rfl⟩
  have hmI : ((a : Int) + 1) = (m : Int) := by omega
  rw [hmI]
  have w1 : IntKind.i64.wrap ((m : Int) - (a : Int)) = 1 := by rw [IntWalk.i64_in _ (by omega)]; omega
  have HM := hide hm
  have he := enterOrder
  have haN : (a : Int) < N := by omega
  clear R S hs hT hd h0 hmI
  go_enter Tryd.func63, Tryd.ntmps63
  go_wp2_with fail
  go_loopw [10, 11] (fun s t wr => ∃ (i j : Nat), s = .int .i64 i ∧ t = .int .i64 j ∧ m ≤ i ∧ i ≤ j ∧ j ≤ b ∧ Hid (∀ x, m ≤ x → x < i → Bef Kd.k d[x]! d[a]!) ∧ Hid (∀ x, j ≤ x → x < b → Bef Kd.k d[a]! d[x]!) ∧ Hid (SWK encK 4 w0 blk off d wr)) (fun s t _ => (intOf t).toNat - (intOf s).toNat)
  case atStart => exact ⟨m, b, rfl, rfl, Nat.le_refl _, by omega, Nat.le_refl _, hide (fun x h1 h2 => by omega), hide (fun x h1 h2 => by omega), HS0⟩
  case round =>
    clear w1
    obtain ⟨i, j, rfl, rfl, hi, hij, hj, H1, H2, HS⟩ := hrel
    by_cases hlt : i < j
    · have hle : decide ((i : Int) < j) = true := decide_eq_true (by omega)
      obtain ⟨sm, hsm⟩ : ∃ sm, i + j = sm := ⟨_, rfl⟩
      obtain ⟨h, hh⟩ : ∃ h, sm / 2 = h := ⟨_, rfl⟩
      have wsm : IntKind.i64.wrap ((i : Int) + (j : Int)) = (sm : Int) := by rw [IntWalk.i64_in _ (by omega)]; omega
      have wsu : IntKind.u64.wrap (sm : Int) = (sm : Int) := by rw [IntKind.wrap_u64]; omega
      have wsh : (sm : Int) / 2 = (h : Int) := by omega
      have wsi : IntKind.i64.wrap (h : Int) = (h : Int) := by rw [IntWalk.i64_in _ (by omega)]
      have hlo : i ≤ h := by omega
      have hhi : h < j := by omega
      have hhN : (h : Int) < N := by omega
      have hhn : h < N := by omega
      have HLT := hide (show d[a]!.2 < d[h]!.2 from HTAG.out a h (Nat.le_refl _) (by omega) (by omega) (by omega))
      have HIH := hide (And.intro hi (And.intro hlo hhi))
      clear hsm hh
      go_upto_region 5 with fail
      obtain ⟨x, hx⟩ : ∃ x, d[h]! = x := ⟨_, rfl⟩
      obtain ⟨y, hy⟩ : ∃ y, d[a]! = y := ⟨_, rfl⟩
      obtain ⟨V, hV⟩ : ∃ V, wr.drew = V := ⟨_, rfl⟩
      have SV := hide (show SWK encK 4 w0 blk off d V by rw [← hV]; exact HS.out.drew)
      obtain ⟨x0, x1, x2, x3⟩ := st_cells HR.out HZ SV.out (i := h) (by rw [HZN.out]; omega) hx
      obtain ⟨y0, y1, y2, y3⟩ := st_cells HR.out HZ SV.out (i := a) (by rw [HZN.out]; omega) hy
      have hbV := SV.out.lt HR.out.hblk
      have xc0 : ∀ W, Le V W → W.cell? ⟨blk, off + h * 4, none⟩ = _ := fun W hl => (hl.cell (p := ⟨blk, off + h * 4, none⟩) hbV).trans x0
      have xc1 : ∀ W, Le V W → W.cell? ⟨blk, off + h * 4 + 1, none⟩ = _ := fun W hl => (hl.cell (p := ⟨blk, off + h * 4 + 1, none⟩) hbV).trans x1
      have xc2 : ∀ W, Le V W → W.cell? ⟨blk, off + h * 4 + 2, none⟩ = _ := fun W hl => (hl.cell (p := ⟨blk, off + h * 4 + 2, none⟩) hbV).trans x2
      have xc3 : ∀ W, Le V W → W.cell? ⟨blk, off + h * 4 + 3, none⟩ = _ := fun W hl => (hl.cell (p := ⟨blk, off + h * 4 + 3, none⟩) hbV).trans x3
      have yc0 : ∀ W, Le V W → W.cell? ⟨blk, off + a * 4, none⟩ = _ := fun W hl => (hl.cell (p := ⟨blk, off + a * 4, none⟩) hbV).trans y0
      have yc1 : ∀ W, Le V W → W.cell? ⟨blk, off + a * 4 + 1, none⟩ = _ := fun W hl => (hl.cell (p := ⟨blk, off + a * 4 + 1, none⟩) hbV).trans y1
      have yc2 : ∀ W, Le V W → W.cell? ⟨blk, off + a * 4 + 2, none⟩ = _ := fun W hl => (hl.cell (p := ⟨blk, off + a * 4 + 2, none⟩) hbV).trans y2
      have yc3 : ∀ W, Le V W → W.cell? ⟨blk, off + a * 4 + 3, none⟩ = _ := fun W hl => (hl.cell (p := ⟨blk, off + a * 4 + 3, none⟩) hbV).trans y3
      have HCM := hide (vorder_any V x.1.k y.1.k x.1.A y.1.A x.1.n y.1.n x.1.c y.1.c)
      obtain ⟨rc, hrc⟩ : ∃ r, ordK x.1.k y.1.k = r := ⟨_, rfl⟩
      obtain ⟨bl, hbl⟩ : ∃ b, ltK x.1.k y.1.k = b := ⟨_, rfl⟩
      have hrl : decide (rc < 0) = bl := by rw [← hrc, ordK_lt, hbl]
      rw [hrc] at HCM
      have HX := hide hx
      have HY := hide hy
      have HBL := hide hbl
      have HV := hide hV
      clear hx hy hV hrc hbl x0 x1 x2 x3 y0 y1 y2 y3
      refine region_pi [(0, true), (1, true), (2, true), (3, true), (4, true), (5, true), (6, true), (7, true), (8, true), (9, false), (10, true)] (by kernel_rfl) (by kernel_rfl) ?_
      simp only [opsPi, List.filterMap_cons, List.filterMap_nil, List.getElem?_toArray, List.getElem?_cons_zero, List.getElem?_cons_succ, Option.map_some]
      rw [HV.out]
      repeat (first | (refine pi_take (v := _) rfl (fun W hW => by go_simp <;> exact rfl) ?_; simp only [Act.put, List.setIfInBounds_toArray, List.set_cons_zero, List.set_cons_succ]) | (refine pi_skip rfl ?_; simp only [Act.put, List.setIfInBounds_toArray, List.set_cons_zero, List.set_cons_succ]))
      clear xc0 xc1 xc2 xc3 yc0 yc1 yc2 yc3
      refine pi_run ?_
      go_wp2_with fail
      refine HCM.out.mono ?_
      rintro e W1 ⟨rfl, hg⟩
      have HS1 := hide (gr_swk SV.out hg)
      have HLE := hide hg.le
      clear hg
      go_wp2_with fail
      refine ⟨HLE.out, ?_⟩
      repeat (first | (refine pi_take (v := _) rfl (fun W hW => by go_simp <;> exact rfl) ?_; simp only [Act.put, List.setIfInBounds_toArray, List.set_cons_zero, List.set_cons_succ]) | (refine pi_skip rfl ?_; simp only [Act.put, List.setIfInBounds_toArray, List.set_cons_zero, List.set_cons_succ]))
      refine pi_done ?_
      clear HCM HV
      cases bl
      · have H2' := hide (show ∀ x, h ≤ x → x < b → Bef Kd.k d[a]! d[x]! from fun z hz hzb => by
          have hb1 : Bef Kd.k d[a]! d[h]! := bef_key' HLT.out (by rw [HX.out, HY.out]; exact HBL.out)
          by_cases e : z = h
          · rw [e]; exact hb1
          · exact bef_trans hb1 (HSRT.out h z (by have := HM.out; omega) (by omega) hzb))
        go_wp2_with fail
        exact ⟨⟨i, h, rfl, rfl, hi, hlo, by omega, H1, H2', HS1⟩, by simp [intOf]; omega⟩
      · have H1' := hide (show ∀ x, m ≤ x → x < h + 1 → Bef Kd.k d[x]! d[a]! from fun z hz hzb => by
          have hb1 : Bef Kd.k d[h]! d[a]! := (bef_key HLT.out).2 (by rw [HX.out, HY.out]; exact HBL.out)
          by_cases e : z = h
          · rw [e]; exact hb1
          · exact bef_trans (HSRT.out z h (by have := HM.out; omega) (by omega) (by omega)) hb1)
        go_wp2_with fail
        exact ⟨⟨h + 1, j, by go_num, rfl, by omega, by omega, hj, H1', H2, HS1⟩, by simp [intOf]; omega⟩
    · obtain rfl : i = j := by omega
      have hle : decide ((i : Int) < i) = false := decide_eq_false (by omega)
      obtain ⟨e1, he1⟩ : ∃ e, i - 1 = e := ⟨_, rfl⟩
      have wi : IntKind.i64.wrap ((i : Int) - 1) = (e1 : Int) := by rw [IntWalk.i64_in _ (by omega)]; omega
      have hae : a ≤ e1 := by omega
      have heb : e1 < b := by omega
      have HE1 := hide he1
      have HIB := hide hj
      have HMI := hide hi
      clear he1
      go_wp2_with fail
      go_loopw [13] (fun s wr => ∃ (k : Nat) (dk : Array (Kd × Nat)), s = .int .i64 k ∧ a ≤ k ∧ k ≤ e1 ∧ dk.size = N ∧ Hid (PermIn a b d dk) ∧ Hid (∀ x, dk[x]! = if a ≤ x ∧ x < k then d[x + 1]! else if x = k then d[a]! else d[x]!) ∧ Hid (SWK encK 4 w0 blk off dk wr)) (fun s _ => e1 - (intOf s).toNat)
      case atStart =>
        refine ⟨a, d, rfl, Nat.le_refl _, hae, HZN.out, hide (permIn_refl _ _ _), hide (fun x => ?_), HS⟩
        rw [if_neg (by omega)]
        by_cases e : x = a
        · rw [if_pos e, e]
        · rw [if_neg e]
      case round =>
        clear HS
        obtain ⟨k, dk, rfl, hak, hke, hsk, HP, HEL, HS⟩ := hrel
        by_cases hlt2 : k < e1
        · have hle2 : decide ((k : Int) < e1) = true := decide_eq_true (by omega)
          obtain ⟨k1, hk1⟩ : ∃ k1, k + 1 = k1 := ⟨_, rfl⟩
          have wk : IntKind.i64.wrap ((k : Int) + 1) = (k1 : Int) := by rw [IntWalk.i64_in _ (by omega)]; omega
          have hkN : (k : Int) < N := by omega
          have hk1N : (k1 : Int) < N := by omega
          have hkn : k < N := by omega
          have hk1n : k1 < N := by omega
          have hzd : dk.size = d0.size := by rw [hsk]; exact HZ0.out.symm
          have HP2 := hide (permIn_trans _ _ _ _ _ HP.out (swp_permIn dk a b k k1 (by omega) (by omega) (by omega) (by omega) (by omega)))
          have HEL2 := hide (show ∀ x, (swp dk k k1)[x]! = if a ≤ x ∧ x < k + 1 then d[x + 1]! else if x = k + 1 then d[a]! else d[x]! from fun x => by
            rw [swp_at dk k k1 x (by omega) (by omega) (by omega), HEL.out k, HEL.out k1, HEL.out x]
            rw [if_neg (show ¬ (a ≤ k1 ∧ k1 < k) by omega), if_neg (show ¬ k1 = k by omega), if_neg (show ¬ (a ≤ k ∧ k < k) by omega), if_pos rfl]
            by_cases e : x = k
            · rw [if_pos e, if_pos (by omega), e, hk1]
            · rw [if_neg e]
              by_cases e2 : x = k1
              · rw [if_pos e2, if_neg (by omega), if_pos (by omega)]
              · rw [if_neg e2]
                by_cases e3 : a ≤ x ∧ x < k
                · rw [if_pos e3, if_pos (by omega)]
                · rw [if_neg e3, if_neg e, if_neg (by omega), if_neg (by omega)])
          have HK1 := hide hk1
          clear hk1
          go_upto_region 11 with fail
          obtain ⟨x, hx⟩ : ∃ x, dk[k]! = x := ⟨_, rfl⟩
          obtain ⟨y, hy⟩ : ∃ y, dk[k1]! = y := ⟨_, rfl⟩
          obtain ⟨V, hV⟩ : ∃ V, wr.drew = V := ⟨_, rfl⟩
          have SV := hide (show SWK encK 4 w0 blk off dk V by rw [← hV]; exact HS.out.drew)
          obtain ⟨TT, hTT⟩ : ∃ TT : World → Prop, TT = SWK encK 4 w0 blk off dk := ⟨_, rfl⟩
          have cx : ∀ W, TT W → _ := fun W h => st_cells HR.out hzd (by rw [hTT] at h; exact h) (i := k) (by omega) hx
          have cy : ∀ W, TT W → _ := fun W h => st_cells HR.out hzd (by rw [hTT] at h; exact h) (i := k1) (by omega) hy
          have CX := hide cx
          have CY := hide cy
          have HT1 := hide (st_there HR.out hzd SV.out (i := k) (by omega))
          have HT2 := hide (st_there HR.out hzd SV.out (i := k1) (by omega))
          have HSW := hide (show SWK encK 4 w0 blk off (swp dk k k1) ((V.setCells blk (off + k * 4) (encK y)).setCells blk (off + k1 * 4) (encK x)) by rw [← hx, ← hy]; exact SV.out.swap encK_len HR.out.hblk k k1 (by omega) (by omega))
          have HTT := hide hTT
          have HV := hide hV
          clear hx hy hV hTT cx cy
          refine region_pig TT 15 [(0, 1), (1, 1), (2, 1), (3, 1), (4, 1), (5, 1), (6, 1), (7, 1), (8, 1), (9, 0), (10, 1), (11, 1), (12, 1), (13, 0), (14, 1), (15, 3), (16, 1), (17, 3)] (by kernel_rfl) (by kernel_rfl) (by rw [HV.out, HTT.out]; exact SV.out) ?_
          simp only [opsPiG, List.filterMap_cons, List.filterMap_nil, List.getElem?_toArray, List.getElem?_cons_zero, List.getElem?_cons_succ, Option.map_some]
          rw [HV.out]
          repeat (refine pig_any (v := _) rfl (fun W' => by go_simp <;> exact rfl) ?_; simp only [Act.put, List.setIfInBounds_toArray, List.set_cons_zero, List.set_cons_succ])
          refine pig_take (v := .agg #[.int .i64 y.1.k.id, .int .i64 y.1.k.bk, .int .i64 y.1.k.rw, .slice y.1.A y.1.n y.1.c]) rfl (fun W' hW' => ?_) ?_
          · obtain ⟨q0, q1, q2, q3⟩ := CY.out W' hW'
            go_simp
          simp only [Act.put, List.setIfInBounds_toArray, List.set_cons_zero, List.set_cons_succ]
          repeat (refine pig_any (v := _) rfl (fun W' => by go_simp <;> exact rfl) ?_; simp only [Act.put, List.setIfInBounds_toArray, List.set_cons_zero, List.set_cons_succ])
          refine pig_take (v := .agg #[.int .i64 x.1.k.id, .int .i64 x.1.k.bk, .int .i64 x.1.k.rw, .slice x.1.A x.1.n x.1.c]) rfl (fun W' hW' => ?_) ?_
          · obtain ⟨q0, q1, q2, q3⟩ := CX.out W' hW'
            go_simp
          simp only [Act.put, List.setIfInBounds_toArray, List.set_cons_zero, List.set_cons_succ]
          repeat (refine pig_any (v := _) rfl (fun W' => by go_simp <;> exact rfl) ?_; simp only [Act.put, List.setIfInBounds_toArray, List.set_cons_zero, List.set_cons_succ])
          refine pig_late ?_
          go_wp2_with (refine wpList_store_mid rfl 37 _ _ rfl blk (off + k * 4) #[.int .i64 y.1.k.id, .int .i64 y.1.k.bk, .int .i64 y.1.k.rw, .slice y.1.A y.1.n y.1.c] rfl rfl HT1.out sizeK (kd_one y) ?_)
          repeat (refine pig_any (v := _) rfl (fun W' => by go_simp <;> exact rfl) ?_; simp only [Act.put, List.setIfInBounds_toArray, List.set_cons_zero, List.set_cons_succ])
          refine pig_late ?_
          go_wp2_with (refine wpList_store_mid rfl 37 _ _ rfl blk (off + k1 * 4) #[.int .i64 x.1.k.id, .int .i64 x.1.k.bk, .int .i64 x.1.k.rw, .slice x.1.A x.1.n x.1.c] rfl rfl (there_set HT2.out) sizeK (kd_one x) ?_)
          repeat (refine pig_any (v := _) rfl (fun W' => by go_simp <;> exact rfl) ?_; simp only [Act.put, List.setIfInBounds_toArray, List.set_cons_zero, List.set_cons_succ])
          refine pig_done ?_
          obtain ⟨X, hX⟩ : ∃ X, (V.setCells blk (off + k * 4) #[.int .i64 y.1.k.id, .int .i64 y.1.k.bk, .int .i64 y.1.k.rw, .slice y.1.A y.1.n y.1.c].toList).setCells blk (off + k1 * 4) #[.int .i64 x.1.k.id, .int .i64 x.1.k.bk, .int .i64 x.1.k.rw, .slice x.1.A x.1.n x.1.c].toList = X := ⟨_, rfl⟩
          have HS2 := hide (show SWK encK 4 w0 blk off (swp dk k k1) X by rw [← hX]; exact HSW.out)
          rw [hX]
          clear hX
          go_wp2_with fail
          exact ⟨⟨k + 1, swp dk k k1, by rw [HK1.out], by omega, by omega, by rw [size_swp]; exact hsk, HP2, HEL2, HS2⟩, by have := HK1.out; simp [intOf]; omega⟩
        · obtain rfl : k = e1 := by omega
          have hle2 : decide ((k : Int) < k) = false := decide_eq_false (by omega)
          have HFIN := hide (show Srt a b dk from one_left (i := i) HSRT.out (by have := HM.out; have := HMI.out; omega) HIB.out (fun x h1 h2 => H1.out x (by have := HM.out; omega) h2) (fun x h1 h2 => H2.out x h1 h2) (fun x => by rw [HEL.out x, HE1.out]))
          go_wp2_with fail
          refine bodyPost_ret (results_none rfl _ _ _) rfl ?_
          exact ⟨rfl, dk, HS.out, HP.out, HFIN.out⟩
#print axioms sym_left
end Go.Proofs.YtjedpjfmlaganaaDoor.vw
