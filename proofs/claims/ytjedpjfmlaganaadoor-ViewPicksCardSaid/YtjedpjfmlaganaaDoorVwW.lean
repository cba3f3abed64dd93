/-
  Rows with keys, sorted: slices' symMerge, walked whole (written by genVwT.py).
-/
import Derived.Test.YtjedpjfmlaganaaDoorVwV
namespace Go.Proofs.YtjedpjfmlaganaaDoor.vw
open Go.RowKit Go.Sort Go.Shelf Go.Lib
set_option linter.unusedVariables false


set_option maxRecDepth 100000 in
set_option maxHeartbeats 16000000 in
theorem sym_main (blk off cap N : Nat) (d0 : Array (Kd × Nat)) (w0 : World) (R : RowK encK 4 w0 blk off d0) (h0 : d0.size = N) (hsz : N ≤ 1000000) (s0 : Nat)
    (ih : ∀ (a m b : Nat) (d : Array (Kd × Nat)) (w : World), b - a ≤ s0 → d.size = N → SWK encK 4 w0 blk off d w → a < m → m < b → b ≤ N → Srt a m d → Srt m b d → Tag a m b d →
      Calls Tryd.prog 63 #[.slice (some ⟨blk, off, none⟩) N cap, .int .i64 a, .int .i64 m, .int .i64 b, .func (.func 39) #[] #[]] w fun e w' => e = .returned (.tuple #[]) ∧ ∃ d', SWK encK 4 w0 blk off d' w' ∧ PermIn a b d d' ∧ Srt a b d')
    (a m b : Nat) (d : Array (Kd × Nat)) (w : World) (hs0 : b - a ≤ s0 + 1) (hd : d.size = N) (S : SWK encK 4 w0 blk off d w) (ham : a + 1 < m) (hmb : m + 1 < b) (hbN : b ≤ N) (h1 : Srt a m d) (h2 : Srt m b d) (hT : Tag a m b d) :
    Calls Tryd.prog 63 #[.slice (some ⟨blk, off, none⟩) N cap, .int .i64 a, .int .i64 m, .int .i64 b, .func (.func 39) #[] #[]] w fun e w' => e = .returned (.tuple #[]) ∧ ∃ d', SWK encK 4 w0 blk off d' w' ∧ PermIn a b d d' ∧ Srt a b d' := by
  have HR := hide R
  have HS0 := hide S
  have HS1 := hide h1
  have HS2 := hide h2
  have HTAG := hide hT
  have HIH := hide ih
  have HZ : d.size = d0.size := by rw [hd, h0]
  have HZN := hide hd
  have HZ0 := hide h0
  obtain ⟨dl, hdl⟩ : ∃ dl, m - a = dl := ⟨_, rfl⟩
  obtain ⟨dr, hdr⟩ : ∃ dr, b - m = dr := ⟨_, rfl⟩
  have w1 : IntKind.i64.wrap ((m : Int) - (a : Int)) = (dl : Int) := by rw [IntWalk.i64_in _ (by omega)]; omega
  have w2 : IntKind.i64.wrap ((b : Int) - (m : Int)) = (dr : Int) := by rw [IntWalk.i64_in _ (by omega)]; omega
  have hne : ((dl : Int) == 1) = false := by
    rw [beq_eq_false_iff_ne]
    omega
  have hne2 : ((dr : Int) == 1) = false := by
    rw [beq_eq_false_iff_ne]
    omega
  obtain ⟨sab, hsab⟩ : ∃ sm, a + b = sm := ⟨_, rfl⟩
  obtain ⟨mid, hmid⟩ : ∃ h, sab / 2 = h := ⟨_, rfl⟩
  have va : IntKind.i64.wrap ((a : Int) + (b : Int)) = (sab : Int) := by rw [IntWalk.i64_in _ (by omega)]; omega
  have vb : IntKind.u64.wrap (sab : Int) = (sab : Int) := by rw [IntKind.wrap_u64]; omega
  have vc : (sab : Int) / 2 = (mid : Int) := by omega
  have vd : IntKind.i64.wrap (mid : Int) = (mid : Int) := by rw [IntWalk.i64_in _ (by omega)]
  obtain ⟨nn, hnn⟩ : ∃ n, mid + m = n := ⟨_, rfl⟩
  have ve : IntKind.i64.wrap ((mid : Int) + (m : Int)) = (nn : Int) := by rw [IntWalk.i64_in _ (by omega)]; omega
  have hm2 : mid = (a + b) / 2 := by omega
  have hmN : mid < N := by omega
  have he := enterOrder
  have HMID := hide (And.intro hm2 hnn)
  clear R S h1 h2 hT hd h0 hdl hdr ih hsab hmid hm2 hnn
  obtain ⟨lo0, r0, hlr⟩ : ∃ lo0 r0 : Nat, (mid < m → lo0 = nn - b ∧ r0 = mid) ∧ (m ≤ mid → lo0 = a ∧ r0 = m) := by
    by_cases h : mid < m
    · exact ⟨nn - b, mid, fun _ => ⟨rfl, rfl⟩, fun h2 => by omega⟩
    · exact ⟨a, m, fun h2 => absurd h2 h, fun _ => ⟨rfl, rfl⟩⟩
  have HLR := hide hlr
  go_enter Tryd.func63, Tryd.ntmps63
  go_upto_region 27 with fail
  go_upto_if 140 with fail
  go_cut [20, 21] (fun s t wx => s = .int .i64 lo0 ∧ t = .int .i64 r0 ∧ w = wx)
  case first =>
    have hm2 := HMID.out.1
    have hnn := HMID.out.2
    by_cases hc : mid < m
    · obtain ⟨rfl, rfl⟩ := HLR.out.1 hc
      have hcd : decide ((r0 : Int) < m) = true := decide_eq_true (by omega)
      have vf : IntKind.i64.wrap ((nn : Int) - (b : Int)) = ((nn - b : Nat) : Int) := by rw [IntWalk.i64_in _ (by omega)]; omega
      clear hlr hm2 hnn
      go_wp2_with fail
      go_meet
      exact ⟨rfl, rfl, rfl⟩
    · obtain ⟨rfl, rfl⟩ := HLR.out.2 (by omega)
      have hcd : decide ((mid : Int) < r0) = false := decide_eq_false (by omega)
      clear hlr hm2 hnn
      go_wp2_with fail
      go_meet
      exact ⟨rfl, rfl, rfl⟩
  case rest =>
    obtain ⟨rfl, rfl, rfl⟩ := hcut
    clear w1 w2 hne hne2 va vb vc vd ve
    have hm2 := HMID.out.1
    have hnn := HMID.out.2
    obtain ⟨p, hp⟩ : ∃ p, nn - 1 = p := ⟨_, rfl⟩
    have wp : IntKind.i64.wrap ((nn : Int) - 1) = (p : Int) := by rw [IntWalk.i64_in _ (by omega)]; omega
    have hlr0 : lo0 ≤ r0 := by
      by_cases h : mid < m
      · have := hlr.1 h; omega
      · have := hlr.2 (by omega); omega
    have hrm : r0 ≤ m ∧ a ≤ lo0 ∧ r0 ≤ mid ∧ nn ≤ lo0 + b := by
      by_cases h : mid < m
      · have := hlr.1 h; omega
      · have := hlr.2 (by omega); omega
    have HPP := hide hp
    clear hlr hm2 hnn hp
    go_wp2_with fail
    go_loopw [20, 21] (fun s t wr => ∃ (i j : Nat), s = .int .i64 i ∧ t = .int .i64 j ∧ lo0 ≤ i ∧ i ≤ j ∧ j ≤ r0 ∧ Hid (lo0 < i → Bef Kd.k d[i - 1]! d[nn - i]!) ∧ Hid (j < r0 → Bef Kd.k d[nn - 1 - j]! d[j]!) ∧ Hid (SWK encK 4 w0 blk off d wr)) (fun s t _ => (intOf t).toNat - (intOf s).toNat)
    case atStart => exact ⟨lo0, r0, rfl, rfl, Nat.le_refl _, hlr0, Nat.le_refl _, hide (fun h => by omega), hide (fun h => by omega), HS0⟩
    case round =>
      clear wp
      obtain ⟨i, j, rfl, rfl, hi, hij, hj, H1, H2, HS⟩ := hrel
      by_cases hlt : i < j
      · as_aux_lemma =>
        have hle : decide ((i : Int) < j) = true := decide_eq_true (by omega)
        obtain ⟨sm, hsm⟩ : ∃ sm, i + j = sm := ⟨_, rfl⟩
        obtain ⟨h, hh⟩ : ∃ h, sm / 2 = h := ⟨_, rfl⟩
        have wsm : IntKind.i64.wrap ((i : Int) + (j : Int)) = (sm : Int) := by rw [IntWalk.i64_in _ (by omega)]; omega
        have wsu : IntKind.u64.wrap (sm : Int) = (sm : Int) := by rw [IntKind.wrap_u64]; omega
        have wsh : (sm : Int) / 2 = (h : Int) := by omega
        have wsi : IntKind.i64.wrap (h : Int) = (h : Int) := by rw [IntWalk.i64_in _ (by omega)]
        have hlo : i ≤ h := by omega
        have hhi : h < j := by omega
        have hhN : (h : Int) < N := by omega
        have hhn : h < N := by omega
        have hm2 := HMID.out.1
        have hnn := HMID.out.2
        have hp := HPP.out
        obtain ⟨q, hq⟩ : ∃ q, p - h = q := ⟨_, rfl⟩
        have wq : IntKind.i64.wrap ((p : Int) - (h : Int)) = (q : Int) := by rw [IntWalk.i64_in _ (by omega)]; omega
        have hqm : m ≤ q ∧ q < b := by omega
        have hqN : (q : Int) < N := by omega
        have hqn : q < N := by omega
        have HQ := hide (show q = nn - 1 - h ∧ nn - (h + 1) = q by omega)
        have HLT := hide (show d[h]!.2 < d[q]!.2 from HTAG.out h q (by omega) (by omega) hqm.1 hqm.2)
        have HIHJ := hide (And.intro hi (And.intro hlo (And.intro hhi hj)))
        clear hsm hh hq hm2 hnn hp
        go_upto_region 35 with fail
        obtain ⟨x, hx⟩ : ∃ x, d[q]! = x := ⟨_, rfl⟩
        obtain ⟨y, hy⟩ : ∃ y, d[h]! = y := ⟨_, rfl⟩
        obtain ⟨V, hV⟩ : ∃ V, wr.drew = V := ⟨_, rfl⟩
        have SV := hide (show SWK encK 4 w0 blk off d V by rw [← hV]; exact HS.out.drew)
        obtain ⟨x0, x1, x2, x3⟩ := st_cells HR.out HZ SV.out (i := q) (by rw [HZN.out]; omega) hx
        obtain ⟨y0, y1, y2, y3⟩ := st_cells HR.out HZ SV.out (i := h) (by rw [HZN.out]; omega) hy
        have hbV := SV.out.lt HR.out.hblk
        have xc0 : ∀ W, Le V W → W.cell? ⟨blk, off + q * 4, none⟩ = _ := fun W hl => (hl.cell (p := ⟨blk, off + q * 4, none⟩) hbV).trans x0
        have xc1 : ∀ W, Le V W → W.cell? ⟨blk, off + q * 4 + 1, none⟩ = _ := fun W hl => (hl.cell (p := ⟨blk, off + q * 4 + 1, none⟩) hbV).trans x1
        have xc2 : ∀ W, Le V W → W.cell? ⟨blk, off + q * 4 + 2, none⟩ = _ := fun W hl => (hl.cell (p := ⟨blk, off + q * 4 + 2, none⟩) hbV).trans x2
        have xc3 : ∀ W, Le V W → W.cell? ⟨blk, off + q * 4 + 3, none⟩ = _ := fun W hl => (hl.cell (p := ⟨blk, off + q * 4 + 3, none⟩) hbV).trans x3
        have yc0 : ∀ W, Le V W → W.cell? ⟨blk, off + h * 4, none⟩ = _ := fun W hl => (hl.cell (p := ⟨blk, off + h * 4, none⟩) hbV).trans y0
        have yc1 : ∀ W, Le V W → W.cell? ⟨blk, off + h * 4 + 1, none⟩ = _ := fun W hl => (hl.cell (p := ⟨blk, off + h * 4 + 1, none⟩) hbV).trans y1
        have yc2 : ∀ W, Le V W → W.cell? ⟨blk, off + h * 4 + 2, none⟩ = _ := fun W hl => (hl.cell (p := ⟨blk, off + h * 4 + 2, none⟩) hbV).trans y2
        have yc3 : ∀ W, Le V W → W.cell? ⟨blk, off + h * 4 + 3, none⟩ = _ := fun W hl => (hl.cell (p := ⟨blk, off + h * 4 + 3, none⟩) hbV).trans y3
        have HCM := hide (vorder_any V x.1.k y.1.k x.1.A y.1.A x.1.n y.1.n x.1.c y.1.c)
        obtain ⟨rc, hrc⟩ : ∃ r, ordK x.1.k y.1.k = r := ⟨_, rfl⟩
        obtain ⟨bl, hbl⟩ : ∃ b, ltK x.1.k y.1.k = b := ⟨_, rfl⟩
        have hrl : decide (rc < 0) = bl := by rw [← hrc, ordK_lt, hbl]
        rw [hrc] at HCM
        have HX := hide hx
        have HY := hide hy
        have HBL := hide hbl
        have HV := hide hV
        clear hx hy hV hrc hbl x0 x1 x2 x3 y0 y1 y2 y3
        refine region_pi [(0, true), (1, true), (2, true), (3, true), (4, true), (5, true), (6, true), (7, true), (8, true), (9, true), (10, true), (11, false), (12, true), (13, true)] (by kernel_rfl) (by kernel_rfl) ?_
        simp only [opsPi, List.filterMap_cons, List.filterMap_nil, List.getElem?_toArray, List.getElem?_cons_zero, List.getElem?_cons_succ, Option.map_some]
        rw [HV.out]
        repeat (first | (refine pi_take (v := _) rfl (fun W hW => by go_simp <;> exact rfl) ?_; simp only [Act.put, List.setIfInBounds_toArray, List.set_cons_zero, List.set_cons_succ]) | (refine pi_skip rfl ?_; simp only [Act.put, List.setIfInBounds_toArray, List.set_cons_zero, List.set_cons_succ]))
        clear xc0 xc1 xc2 xc3 yc0 yc1 yc2 yc3
        refine pi_run ?_
        go_wp2_with fail
        refine HCM.out.mono ?_
        rintro e W1 ⟨rfl, hg⟩
        have HS1 := hide (gr_swk SV.out hg)
        have HLE := hide hg.le
        clear hg
        go_wp2_with fail
        refine ⟨HLE.out, ?_⟩
        repeat (first | (refine pi_take (v := _) rfl (fun W hW => by go_simp <;> exact rfl) ?_; simp only [Act.put, List.setIfInBounds_toArray, List.set_cons_zero, List.set_cons_succ]) | (refine pi_skip rfl ?_; simp only [Act.put, List.setIfInBounds_toArray, List.set_cons_zero, List.set_cons_succ]))
        refine pi_done ?_
        clear HCM HV
        cases bl
        · have H1' := hide (show lo0 < h + 1 → Bef Kd.k d[h + 1 - 1]! d[nn - (h + 1)]! from fun _ => by
            rw [HQ.out.2, Nat.add_sub_cancel]
            exact bef_key' HLT.out (by rw [HX.out, HY.out]; exact HBL.out))
          go_wp2_with fail
          exact ⟨⟨h + 1, j, by go_num, rfl, by omega, by omega, hj, H1', H2, HS1⟩, by simp [intOf]; omega⟩
        · have H2' := hide (show h < r0 → Bef Kd.k d[nn - 1 - h]! d[h]! from fun _ => by
            rw [← HQ.out.1]
            exact (bef_key HLT.out).2 (by rw [HX.out, HY.out]; exact HBL.out))
          go_wp2_with fail
          exact ⟨⟨i, h, rfl, rfl, hi, hlo, by omega, H1, H2', HS1⟩, by simp [intOf]; omega⟩
      · as_aux_lemma =>
        obtain rfl : i = j := by omega
        have hle : decide ((i : Int) < i) = false := decide_eq_false (by omega)
        have hm2 := HMID.out.1
        have hnn := HMID.out.2
        obtain ⟨t, ht⟩ : ∃ t, nn - i = t := ⟨_, rfl⟩
        have wt : IntKind.i64.wrap ((nn : Int) - (i : Int)) = (t : Int) := by rw [IntWalk.i64_in _ (by omega)]; omega
        have hA : a < i → t < b → Bef Kd.k d[i - 1]! d[t]! := fun e1 e2 => by
          rw [← ht]
          refine H1.out ?_
          by_cases h : mid < m
          · have := HLR.out.1 h; omega
          · have := HLR.out.2 (by omega); omega
        have hB : i < m → m < t → Bef Kd.k d[t - 1]! d[i]! := fun e1 e2 => by
          rw [show t - 1 = nn - 1 - i by omega]
          refine H2.out ?_
          by_cases h : mid < m
          · have := HLR.out.1 h; omega
          · have := HLR.out.2 (by omega); omega
        have hf : a ≤ i ∧ i ≤ m ∧ i ≤ mid ∧ m ≤ t ∧ t ≤ b ∧ mid ≤ t := by
          by_cases h : mid < m
          · have := HLR.out.1 h; omega
          · have := HLR.out.2 (by omega); omega
        have HSP := hide (fun (e : Array (Kd × Nat)) (he : ∀ x, e[x]! = rotAt d i m t x) => sym_split (show a < m by omega) (show m < b by omega) hm2 (show t = mid + m - i by omega) hf.1 hf.2.1 hf.2.2.1 hf.2.2.2.1 hf.2.2.2.2.1 hf.2.2.2.2.2 HS1.out HS2.out HTAG.out hA hB he)
        obtain ⟨h3, h4, h5, h6, h7, h8⟩ := hf
        have HNS := hide ht
        have hmab : a ≤ mid ∧ mid < b ∧ a < mid := by omega
        clear hm2 hnn hA hB ht H1 H2
        go_upto_region 39 with fail
        obtain ⟨Z, rfl⟩ : ∃ Z, Z = wr := ⟨_, rfl⟩
        obtain ⟨bb, hbb⟩ : ∃ x : Bool, (decide (i < m) && decide (m < t)) = x := ⟨_, rfl⟩
        have HBB := hide hbb.symm
        go_cut [185] (fun s wx => s = .bool bb ∧ Z = wx)
        case first =>
          clear HBB
          by_cases g1p : i < m
          · have g1 : decide (i < m) = true := by simpa using g1p
            have g1' : decide ((i : Int) < m) = true := by rw [← g1]; exact decide_eq_decide.2 Int.ofNat_lt
            by_cases g2p : m < t
            · have g2 : decide (m < t) = true := by simpa using g2p
              have g2' : decide ((m : Int) < t) = true := by rw [← g2]; exact decide_eq_decide.2 Int.ofNat_lt
              obtain rfl : true = bb := by rw [← hbb, g1, g2]; rfl
              clear hbb
              go_wp2_with fail
              go_meet
              exact ⟨rfl, rfl⟩
            · have g2 : decide (m < t) = false := by simpa using g2p
              have g2' : decide ((m : Int) < t) = false := by rw [← g2]; exact decide_eq_decide.2 Int.ofNat_lt
              obtain rfl : false = bb := by rw [← hbb, g1, g2]; rfl
              clear hbb
              go_wp2_with fail
              go_meet
              exact ⟨by rw [← g2] <;> rfl, rfl⟩
          · have g1 : decide (i < m) = false := by simpa using g1p
            have g1' : decide ((i : Int) < m) = false := by rw [← g1]; exact decide_eq_decide.2 Int.ofNat_lt
            obtain rfl : false = bb := by rw [← hbb, g1]; rfl
            clear hbb
            go_wp2_with fail
            go_meet
            exact ⟨rfl, rfl⟩
        obtain ⟨rfl, rfl⟩ := hcut
        clear hbb
        go_upto_if 185 with fail
        go_cut [] (fun wx => ∃ e : Array (Kd × Nat), Hid (PermIn a b d e) ∧ Hid (∀ x, e[x]! = rotAt d i m t x) ∧ Hid (SWK encK 4 w0 blk off e wx))
        case first =>
          cases bb
          · have hno : i = m ∨ m = t := by
              have := HBB.out
              rw [eq_comm, Bool.and_eq_false_iff, decide_eq_false_iff_not, decide_eq_false_iff_not] at this
              omega
            go_wp2_with fail
            go_meet
            exact ⟨d, hide (permIn_refl _ _ _), hide (fun x => (rot_none hno h4 h6).symm), HS⟩
          · have hyes : i < m ∧ m < t := by
              have := HBB.out
              rw [eq_comm, Bool.and_eq_true, decide_eq_true_eq, decide_eq_true_eq] at this
              exact this
            have hro := hide (rotate_any blk off cap i m t N d0 d w0 Z (.func (.func 39) #[] #[]) HR.out HZ HZN.out HS.out hyes.1 hyes.2 (by omega) hsz)
            have HYES := hide hyes
            clear hyes
            go_wp2_with fail
            refine hro.out.mono ?_
            rintro e w' ⟨rfl, d', S', P', E'⟩
            have HS' := hide S'
            have HE' := hide E'
            have HP' := hide (permIn_mono d d' i t a b h3 h7 (by rw [HZN.out]; exact hbN) P')
            clear S' P' E'
            go_wp2_with fail
            go_meet
            exact ⟨d', HP', HE', HS'⟩
        case rest =>
          as_aux_lemma =>
          obtain ⟨e, HPE, HEE, HSE⟩ := hcut
          obtain ⟨sp1, sp2, sp3, sp4, sp5, sp6, sp7⟩ := HSP.out e HEE.out
          have HA1 := hide sp1
          have HA2 := hide sp2
          have HA3 := hide sp3
          have HA4 := hide sp4
          have HA5 := hide sp5
          have HA6 := hide sp6
          have HA7 := hide sp7
          have hes : e.size = N := HPE.out.1.trans HZN.out
          clear sp1 sp2 sp3 sp4 sp5 sp6 sp7 HS HBB
          obtain ⟨Z, rfl⟩ : ∃ Z, Z = wc := ⟨_, rfl⟩
          go_upto_region 41 with fail
          obtain ⟨bc, hbb⟩ : ∃ x : Bool, (decide (a < i) && decide (i < mid)) = x := ⟨_, rfl⟩
          have HBB := hide hbb.symm
          go_cut [199] (fun s wx => s = .bool bc ∧ Z = wx)
          case first =>
            clear HBB
            by_cases g1p : a < i
            · have g1 : decide (a < i) = true := by simpa using g1p
              have g1' : decide ((a : Int) < i) = true := by rw [← g1]; exact decide_eq_decide.2 Int.ofNat_lt
              by_cases g2p : i < mid
              · have g2 : decide (i < mid) = true := by simpa using g2p
                have g2' : decide ((i : Int) < mid) = true := by rw [← g2]; exact decide_eq_decide.2 Int.ofNat_lt
                obtain rfl : true = bc := by rw [← hbb, g1, g2]; rfl
                clear hbb
                go_wp2_with fail
                go_meet
                exact ⟨rfl, rfl⟩
              · have g2 : decide (i < mid) = false := by simpa using g2p
                have g2' : decide ((i : Int) < mid) = false := by rw [← g2]; exact decide_eq_decide.2 Int.ofNat_lt
                obtain rfl : false = bc := by rw [← hbb, g1, g2]; rfl
                clear hbb
                go_wp2_with fail
                go_meet
                exact ⟨by rw [← g2] <;> rfl, rfl⟩
            · have g1 : decide (a < i) = false := by simpa using g1p
              have g1' : decide ((a : Int) < i) = false := by rw [← g1]; exact decide_eq_decide.2 Int.ofNat_lt
              obtain rfl : false = bc := by rw [← hbb, g1]; rfl
              clear hbb
              go_wp2_with fail
              go_meet
              exact ⟨rfl, rfl⟩
          obtain ⟨rfl, rfl⟩ := hcut
          clear hbb
          go_upto_if 199 with fail
          go_cut [] (fun wx => ∃ d1 : Array (Kd × Nat), Hid (PermIn a mid e d1) ∧ Hid (Srt a mid d1) ∧ Hid (SWK encK 4 w0 blk off d1 wx))
          case first =>
            cases bc
            · have hno : i = a ∨ i = mid := by
                have := HBB.out
                rw [eq_comm, Bool.and_eq_false_iff, decide_eq_false_iff_not, decide_eq_false_iff_not] at this
                omega
              have HSA := hide (show Srt a mid e by
                rcases hno with h | h
                · rw [← h]; exact HA2.out
                · rw [← h]; exact HA1.out)
              clear hno
              go_wp2_with fail
              go_meet
              exact ⟨e, hide (permIn_refl _ _ _), HSA, HSE⟩
            · have hyes : a < i ∧ i < mid := by
                have := HBB.out
                rw [eq_comm, Bool.and_eq_true, decide_eq_true_eq, decide_eq_true_eq] at this
                exact this
              have hih := hide (HIH.out a i mid e Z (by omega) hes HSE.out hyes.1 hyes.2 (by omega) HA1.out HA2.out HA5.out)
              clear hyes
              go_wp2_with fail
              refine hih.out.mono ?_
              rintro e' w' ⟨rfl, d', S', P', E'⟩
              have HS' := hide S'
              have HE' := hide E'
              have HP' := hide P'
              clear S' P' E'
              go_wp2_with fail
              go_meet
              exact ⟨d', HP', HE', HS'⟩
          case rest =>
            as_aux_lemma =>
            obtain ⟨d1, HP1, HT1, HSD⟩ := hcut
            have hds : d1.size = N := HP1.out.1.trans hes
            have HB3 := hide (show Srt mid t d1 from fun x y hx hxy hy => by rw [HP1.out.2.1 x (by omega), HP1.out.2.1 y (by omega)]; exact HA3.out x y hx hxy hy)
            have HB4 := hide (show Srt t b d1 from fun x y hx hxy hy => by rw [HP1.out.2.1 x (by omega), HP1.out.2.1 y (by omega)]; exact HA4.out x y hx hxy hy)
            have HB6 := hide (show Tag mid t b d1 from tag_perm (by rw [hes]; exact hbN) HA6.out HP1.out (by rw [hes]; omega) (by omega))
            have HFIN := hide (fun (d2 : Array (Kd × Nat)) (p2 : PermIn mid b d1 d2) (s2 : Srt mid b d2) => And.intro (permIn_trans _ _ _ _ _ HPE.out (permIn_trans _ _ _ _ _ (permIn_mono e d1 a mid a b (Nat.le_refl _) (by omega) (by rw [hes]; exact hbN) HP1.out) (permIn_mono d1 d2 mid b a b hmab.1 (Nat.le_refl _) (by rw [hds]; exact hbN) p2))) (sym_join hmab.1 (by omega) (by rw [hes]; exact hbN) HA7.out HP1.out HT1.out p2 s2))
            clear HBB
            obtain ⟨Y, rfl⟩ : ∃ Y, Y = wc := ⟨_, rfl⟩
            go_upto_region 43 with fail
            obtain ⟨bd, hbb⟩ : ∃ x : Bool, (decide (mid < t) && decide (t < b)) = x := ⟨_, rfl⟩
            have HBB := hide hbb.symm
            go_cut [213] (fun s wx => s = .bool bd ∧ Y = wx)
            case first =>
              clear HBB
              by_cases g1p : mid < t
              · have g1 : decide (mid < t) = true := by simpa using g1p
                have g1' : decide ((mid : Int) < t) = true := by rw [← g1]; exact decide_eq_decide.2 Int.ofNat_lt
                by_cases g2p : t < b
                · have g2 : decide (t < b) = true := by simpa using g2p
                  have g2' : decide ((t : Int) < b) = true := by rw [← g2]; exact decide_eq_decide.2 Int.ofNat_lt
                  obtain rfl : true = bd := by rw [← hbb, g1, g2]; rfl
                  clear hbb
                  go_wp2_with fail
                  go_meet
                  exact ⟨rfl, rfl⟩
                · have g2 : decide (t < b) = false := by simpa using g2p
                  have g2' : decide ((t : Int) < b) = false := by rw [← g2]; exact decide_eq_decide.2 Int.ofNat_lt
                  obtain rfl : false = bd := by rw [← hbb, g1, g2]; rfl
                  clear hbb
                  go_wp2_with fail
                  go_meet
                  exact ⟨by rw [← g2] <;> rfl, rfl⟩
              · have g1 : decide (mid < t) = false := by simpa using g1p
                have g1' : decide ((mid : Int) < t) = false := by rw [← g1]; exact decide_eq_decide.2 Int.ofNat_lt
                obtain rfl : false = bd := by rw [← hbb, g1]; rfl
                clear hbb
                go_wp2_with fail
                go_meet
                exact ⟨rfl, rfl⟩
            obtain ⟨rfl, rfl⟩ := hcut
            clear hbb
            go_upto_if 213 with fail
            cases bd
            · have hno : mid = t ∨ t = b := by
                have := HBB.out
                rw [eq_comm, Bool.and_eq_false_iff, decide_eq_false_iff_not, decide_eq_false_iff_not] at this
                omega
              have HSA := hide (show Srt mid b d1 by
                rcases hno with h | h
                · rw [h]; exact HB4.out
                · rw [← h]; exact HB3.out)
              clear hno
              have hfin := HFIN.out d1 (permIn_refl _ _ _) HSA.out
              have HF := hide hfin
              clear hfin
              go_wp2_with fail
              go_end0
              exact ⟨rfl, d1, HSD.out, HF.out.1, HF.out.2⟩
            · have hyes : mid < t ∧ t < b := by
                have := HBB.out
                rw [eq_comm, Bool.and_eq_true, decide_eq_true_eq, decide_eq_true_eq] at this
                exact this
              have hih := hide (HIH.out mid t b d1 Y (by omega) hds HSD.out hyes.1 hyes.2 hbN HB3.out HB4.out HB6.out)
              clear hyes
              go_wp2_with fail
              refine hih.out.mono ?_
              rintro e' w' ⟨rfl, d', S', P', E'⟩
              have HS' := hide S'
              have HF := hide (HFIN.out d' P' E')
              clear S' P' E'
              go_wp2_with fail
              go_end0
              exact ⟨rfl, d', HS'.out, HF.out.1, HF.out.2⟩
#print axioms sym_main
theorem sym_any (blk off cap N : Nat) (d0 : Array (Kd × Nat)) (w0 : World) (R : RowK encK 4 w0 blk off d0) (h0 : d0.size = N) (hsz : N ≤ 1000000) : ∀ (s0 a m b : Nat) (d : Array (Kd × Nat)) (w : World), b - a ≤ s0 → d.size = N → SWK encK 4 w0 blk off d w → a < m → m < b → b ≤ N → Srt a m d → Srt m b d → Tag a m b d →
      Calls Tryd.prog 63 #[.slice (some ⟨blk, off, none⟩) N cap, .int .i64 a, .int .i64 m, .int .i64 b, .func (.func 39) #[] #[]] w fun e w' => e = .returned (.tuple #[]) ∧ ∃ d', SWK encK 4 w0 blk off d' w' ∧ PermIn a b d d' ∧ Srt a b d'
  | 0, a, m, b, d, w, hs0, hd, S, ham, hmb, hbN, h1, h2, hT => by omega
  | s0 + 1, a, m, b, d, w, hs0, hd, S, ham, hmb, hbN, h1, h2, hT => by
    by_cases e1 : m = a + 1
    · subst e1
      have h := sym_left blk off cap N d0 w0 R h0 hsz a b d w hd S hmb hbN h2 hT
      rw [show ((a : Int) + 1) = ((a + 1 : Nat) : Int) by omega] at h
      exact h
    · by_cases e2 : b = m + 1
      · subst e2
        have h := sym_right blk off cap N d0 w0 R h0 hsz a m d w hd S (by omega) hbN h1 hT
        rw [show ((m : Int) + 1) = ((m + 1 : Nat) : Int) by omega] at h
        exact h
      · exact sym_main blk off cap N d0 w0 R h0 hsz s0 (fun a m b d w => sym_any blk off cap N d0 w0 R h0 hsz s0 a m b d w) a m b d w hs0 hd S (by omega) (by omega) hbN h1 h2 hT
#print axioms sym_any
end Go.Proofs.YtjedpjfmlaganaaDoor.vw
