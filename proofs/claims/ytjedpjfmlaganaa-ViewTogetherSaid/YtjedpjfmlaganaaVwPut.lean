/-
  The document's Put, walked (written by genVwPut.py).
-/
import Derived.Test.YtjedpjfmlaganaaVwLs
import Derived.Test.YtjedpjfmlaganaaRegionT
namespace Go.Proofs.Ytjedpjfmlaganaa.vw
open Go.RowKit
set_option linter.unusedVariables false

/-- An own row grows: what lies below stays. -/
theorem le_own {w w' : World} {base size n : Nat} {e : TypeId} {v : Value} {xs : List Value} (ho : w.ownsRow base e size v n xs) (hg : w.grownBy w' v.ownBlock) (hb : base ≤ w.heap.size) : Below base w w' :=
  below_own hg (Nat.le_refl _) hb (fun g h => own_ge ho h (Nat.le_refl _))
theorem own_some {w : World} {base size n c : Nat} {A : Option Addr} {e : TypeId} {xs : List Value} (h : w.ownsRow base e size (.slice A n c) n xs) (hn : 0 < n) : ∃ g, A = some ⟨g, 0, none⟩ := by
  rcases h.2 with ⟨hv, h0⟩ | ⟨g, cap, cur, hv, _⟩
  · omega
  · injection hv with h1 h2 h3
    exact ⟨g, h1⟩
theorem row_box {w : World} {b : Nat} {cs : Array Value} {t : TypeId} (h : Box w b cs t) : Row w w.heap.size (some ⟨b, 0, none⟩) cs.toList := fun _ => by
  refine ⟨b, 0, rfl, h.lt, fun j u hu => ?_⟩
  rw [Nat.zero_add]
  exact h.cell j u (by simpa using hu)
set_option maxRecDepth 100000 in
set_option maxHeartbeats 8000000 in
theorem rput_any (w : World) (B g n c : Nat) (l : List Kd) (x : Kd) (hB : B ≤ w.heap.size) (hn : n ≤ 1000) (ho : w.ownsRow B 47 4 (.slice (some ⟨g, 0, none⟩) n c) n (kcs l)) :
    Calls Try.prog 28 #[.slice (some ⟨g, 0, none⟩) n c, .agg #[.int .i64 x.k.id, .int .i64 x.k.bk, .int .i64 x.k.rw, .slice x.A x.n x.c]] w fun e w' => ∃ g' n' c', e = .returned (.slice (some ⟨g', 0, none⟩) n' c') ∧ w'.ownsRow B 47 4 (.slice (some ⟨g', 0, none⟩) n' c') n' (kcs (putK Kd.k l x)) ∧ n' = (putK Kd.k l x).length ∧ n' ≤ n + 1 ∧ Le w w' := by
  have hl : l.length = n := by have := ho.1; rw [kcs_len] at this; omega
  have hcc : n ≤ c ∧ c ≤ maxLen := by
    obtain ⟨A, c', e, h1, h2⟩ := own_form ho
    injection e with e1 e2 e3
    subst e3
    exact ⟨h1, h2⟩
  have hnc := hcc.1
  have HCM := hide hcc.2
  have HL := hide hl
  have HO := hide ho
  have HRW := hide (Row.of_own ho)
  obtain ⟨X, hX, bX, hlX⟩ : ∃ X, w.alloc (.cells #[.int .i64 x.k.id, .int .i64 x.k.bk, .int .i64 x.k.rw, .slice x.A x.n x.c] 47) = X ∧ Box X w.heap.size #[.int .i64 x.k.id, .int .i64 x.k.bk, .int .i64 x.k.rw, .slice x.A x.n x.c] 47 ∧ Le w X := ⟨_, rfl, box_new _ _ _, (Below.refl _ _).alloc (Nat.le_refl _) _⟩
  have hXs : w.heap.size < X.heap.size := bX.lt
  have HX := hide hX
  have BX := hide bX
  have HLX := hide hlX
  have hwz := bX.lt
  have HDRP := hide (fun (k : Nat) (W : World) (h : Le w W) => show Row W W.heap.size (some ⟨g, k * 4, none⟩) (kcs (l.drop k)) by
    have := ((h.row HRW.out (Nat.le_refl _)).more h.size).drop (k * 4) (A' := some ⟨g, k * 4, none⟩) (fun _ => by simp [add_eq])
    rwa [kcs_drop] at this)
  have HTKP := hide (fun (k : Nat) (W : World) (h : Le w W) => show Row W W.heap.size (some ⟨g, 0, none⟩) (kcs (l.take k)) by
    have := ((h.row HRW.out (Nat.le_refl _)).more h.size).take (k * 4)
    rwa [kcs_take] at this)
  clear hl ho hX bX hlX hcc
  go_enter Try.func28, Try.ntmps28
  go_upto_region 1 with fail
  rw [HX.out]
  go_wp2_with fail
  go_loopw [5] (fun s wr => ∃ k : Nat, s = .int .i64 k ∧ k ≤ n ∧ Hid (∀ j z, j < k → l[j]? = some z → ltK z.k x.k = true) ∧ Hid (Le X wr)) (fun s _ => n - (intOf s).toNat)
  case atStart => exact ⟨0, rfl, Nat.zero_le _, hide (fun j z h => by omega), hide (Le.refl _)⟩
  case round =>
    obtain ⟨k, rfl, hk, HK, HLr⟩ := hrel
    go_upto_region 2 with fail
    obtain ⟨V, hV⟩ : ∃ V, wr.drew = V := ⟨_, rfl⟩
    have HLV := hide (show Le X V by rw [← hV]; exact HLr.out.drew)
    have HV := hide hV
    have b0 : ∀ W, Le V W → W.cell? ⟨w.heap.size, 0, none⟩ = some (.int .i64 x.k.id) := fun W h => BX.out.later 0 _ rfl W (HLV.out.trans h)
    have b1 : ∀ W, Le V W → W.cell? ⟨w.heap.size, 1, none⟩ = some (.int .i64 x.k.bk) := fun W h => BX.out.later 1 _ rfl W (HLV.out.trans h)
    have b2 : ∀ W, Le V W → W.cell? ⟨w.heap.size, 2, none⟩ = some (.int .i64 x.k.rw) := fun W h => BX.out.later 2 _ rfl W (HLV.out.trans h)
    clear hV
    go_cut [20] (fun s wx => ∃ d : Bool, s = .bool d ∧ Hid (d = true → k < n ∧ ∀ z, l[k]? = some z → ltK z.k x.k = true) ∧ Hid (d = false → ∀ z, l[k]? = some z → ltK z.k x.k = false) ∧ Hid (Le X wx))
    case first =>
      by_cases hkn : k < n
      · obtain ⟨u, hu⟩ : ∃ u, l[k]? = some u := ⟨_, List.getElem?_eq_getElem (by rw [HL.out]; exact hkn)⟩
        obtain ⟨bA, oA, eA, hbA, r0, r1, r2, -⟩ := row_kd HRW.out hu
        simp only [Option.some.injEq, Addr.mk.injEq, and_true] at eA
        obtain ⟨rfl, rfl⟩ := eA
        have hkI : (k : Int) < n := by omega
        have e0 : ∀ W, Le V W → W.cell? ⟨g, k * 4, none⟩ = some (.int .i64 u.k.id) := fun W h => by have := (((HLX.out.trans HLV.out).trans h).cell (p := ⟨g, 0 + k * 4, none⟩) hbA).trans r0; simpa using this
        have e1 : ∀ W, Le V W → W.cell? ⟨g, k * 4 + 1, none⟩ = some (.int .i64 u.k.bk) := fun W h => by have := (((HLX.out.trans HLV.out).trans h).cell (p := ⟨g, 0 + k * 4 + 1, none⟩) hbA).trans r1; simpa using this
        have e2 : ∀ W, Le V W → W.cell? ⟨g, k * 4 + 2, none⟩ = some (.int .i64 u.k.rw) := fun W h => by have := (((HLX.out.trans HLV.out).trans h).cell (p := ⟨g, 0 + k * 4 + 2, none⟩) hbA).trans r2; simpa using this
        have hle := hide (rless_any V u.k x.k)
        have HU := hide (show ∀ z, l[k]? = some z → z = u from fun z hz => by rw [hu] at hz; injection hz with hz; exact hz.symm)
        obtain ⟨d, hd⟩ : ∃ d, ltK u.k x.k = d := ⟨_, rfl⟩
        rw [hd] at hle
        have HD := hide hd
        clear r0 r1 r2 hu hd
        refine region_pi [(0, true), (1, true), (2, true), (3, true), (4, true), (5, true), (6, true), (7, true), (8, true), (9, true), (10, true), (11, true), (12, false), (13, true)] (by kernel_rfl) (by kernel_rfl) ?_
        simp only [opsPi, List.filterMap_cons, List.filterMap_nil, List.getElem?_toArray, List.getElem?_cons_zero, List.getElem?_cons_succ, Option.map_some]
        rw [HV.out]
        repeat (first | (refine pi_take (v := _) rfl (fun W hW => by go_simp <;> exact rfl) ?_; simp only [Act.put, List.setIfInBounds_toArray, List.set_cons_zero, List.set_cons_succ]) | (refine pi_skip rfl ?_; simp only [Act.put, List.setIfInBounds_toArray, List.set_cons_zero, List.set_cons_succ]))
        clear e0 e1 e2 b0 b1 b2
        refine pi_run ?_
        go_wp2_with fail
        refine hle.out.mono ?_
        rintro e w1 ⟨rfl, hg⟩
        have HG1 := hide hg.le
        clear hg
        go_wp2_with fail
        refine ⟨HG1.out, ?_⟩
        repeat (first | (refine pi_take (v := _) rfl (fun W hW => by go_simp <;> exact rfl) ?_; simp only [Act.put, List.setIfInBounds_toArray, List.set_cons_zero, List.set_cons_succ]) | (refine pi_skip rfl ?_; simp only [Act.put, List.setIfInBounds_toArray, List.set_cons_zero, List.set_cons_succ]))
        refine pi_done ?_
        go_wp2_with fail
        go_meet
        exact ⟨d, rfl, hide (fun h => ⟨hkn, fun z hz => by rw [HU.out z hz, HD.out, h]⟩), hide (fun h z hz => by rw [HU.out z hz, HD.out, h]), hide (HLV.out.trans HG1.out)⟩
      · have hkI : ¬ (k : Int) < n := by omega
        refine region_pi [(0, true), (1, true), (2, true), (3, true), (4, true), (5, true), (6, true), (7, true), (8, true), (9, true), (10, true), (11, true), (12, true), (13, true)] (by kernel_rfl) (by kernel_rfl) ?_
        simp only [opsPi, List.filterMap_cons, List.filterMap_nil, List.getElem?_toArray, List.getElem?_cons_zero, List.getElem?_cons_succ, Option.map_some]
        rw [HV.out]
        repeat (first | (refine pi_take (v := _) rfl (fun W hW => by go_simp <;> exact rfl) ?_; simp only [Act.put, List.setIfInBounds_toArray, List.set_cons_zero, List.set_cons_succ]) | (refine pi_skip rfl ?_; simp only [Act.put, List.setIfInBounds_toArray, List.set_cons_zero, List.set_cons_succ]))
        refine pi_done ?_
        go_wp2_with fail
        go_meet
        exact ⟨false, rfl, hide (fun h => by cases h), hide (fun _ z hz => by have := (List.getElem?_eq_some_iff.1 hz).1; rw [HL.out] at this; omega), HLV⟩
    case rest =>
      obtain ⟨d, rfl, HD1, HD2, HLc⟩ := hcut
      clear HLr HLV HV b0 b1 b2
      cases d
      · obtain ⟨Y, rfl⟩ : ∃ Y, Y = wc := ⟨_, rfl⟩
        go_upto_region 4 with fail
        obtain ⟨U, hU⟩ : ∃ U, Y.drew = U := ⟨_, rfl⟩
        have HLU := hide (show Le X U by rw [← hU]; exact HLc.out.drew)
        have HU := hide hU
        have b0 : ∀ W, Le U W → W.cell? ⟨w.heap.size, 0, none⟩ = some (.int .i64 x.k.id) := fun W h => BX.out.later 0 _ rfl W (HLU.out.trans h)
        have b1 : ∀ W, Le U W → W.cell? ⟨w.heap.size, 1, none⟩ = some (.int .i64 x.k.bk) := fun W h => BX.out.later 1 _ rfl W (HLU.out.trans h)
        have b2 : ∀ W, Le U W → W.cell? ⟨w.heap.size, 2, none⟩ = some (.int .i64 x.k.rw) := fun W h => BX.out.later 2 _ rfl W (HLU.out.trans h)
        clear hU
        go_cut [36] (fun s wx => ∃ d : Bool, s = .bool d ∧ Hid (d = true → putK Kd.k l x = l) ∧ Hid (d = false → putK Kd.k l x = l.take k ++ [x] ++ l.drop k) ∧ Hid (Le X wx))
        case first =>
          by_cases hkn : k < n
          · obtain ⟨u, hu⟩ : ∃ u, l[k]? = some u := ⟨_, List.getElem?_eq_getElem (by rw [HL.out]; exact hkn)⟩
            obtain ⟨bA, oA, eA, hbA, r0, r1, r2, -⟩ := row_kd HRW.out hu
            simp only [Option.some.injEq, Addr.mk.injEq, and_true] at eA
            obtain ⟨rfl, rfl⟩ := eA
            have hkI : (k : Int) < n := by omega
            have e0 : ∀ W, Le U W → W.cell? ⟨g, k * 4, none⟩ = some (.int .i64 u.k.id) := fun W h => by have := (((HLX.out.trans HLU.out).trans h).cell (p := ⟨g, 0 + k * 4, none⟩) hbA).trans r0; simpa using this
            have e1 : ∀ W, Le U W → W.cell? ⟨g, k * 4 + 1, none⟩ = some (.int .i64 u.k.bk) := fun W h => by have := (((HLX.out.trans HLU.out).trans h).cell (p := ⟨g, 0 + k * 4 + 1, none⟩) hbA).trans r1; simpa using this
            have e2 : ∀ W, Le U W → W.cell? ⟨g, k * 4 + 2, none⟩ = some (.int .i64 u.k.rw) := fun W h => by have := (((HLX.out.trans HLU.out).trans h).cell (p := ⟨g, 0 + k * 4 + 2, none⟩) hbA).trans r2; simpa using this
            obtain ⟨d, hd⟩ : ∃ d, eqK u.k x.k = d := ⟨_, rfl⟩
            have HDD := hide hd
            have HP1 := hide (fun h : d = true => putK_same (key := Kd.k) (x := x) (y := u) hu HK.out (by rw [hd, h]))
            have HP2 := hide (fun h : d = false => putK_new (key := Kd.k) (x := x) (l := l) (k := k) (by rw [HL.out]; exact hk) HK.out (fun y hy => ⟨HD2.out rfl y hy, by rw [hu] at hy; injection hy with hy; rw [← hy, hd, h]⟩))
            clear r0 r1 r2 hu hd
            refine region_pi [(0, true), (1, true), (2, true), (3, true), (4, true), (5, true), (6, true), (7, true), (8, true), (9, true), (10, true), (11, true), (12, true), (13, true)] (by kernel_rfl) (by kernel_rfl) ?_
            simp only [opsPi, List.filterMap_cons, List.filterMap_nil, List.getElem?_toArray, List.getElem?_cons_zero, List.getElem?_cons_succ, Option.map_some]
            rw [HU.out]
            repeat (first | (refine pi_take (v := _) rfl (fun W hW => by go_simp <;> exact rfl) ?_; simp only [Act.put, List.setIfInBounds_toArray, List.set_cons_zero, List.set_cons_succ]) | (refine pi_skip rfl ?_; simp only [Act.put, List.setIfInBounds_toArray, List.set_cons_zero, List.set_cons_succ]))
            refine pi_take (v := .bool _) rfl (fun W' hW' => eqk_exec (x := u.k) (y := x.k) rfl rfl rfl W') ?_
            rw [HDD.out]
            simp only [Act.put, List.setIfInBounds_toArray, List.set_cons_zero, List.set_cons_succ]
            repeat (first | (refine pi_take (v := _) rfl (fun W hW => by go_simp <;> exact rfl) ?_; simp only [Act.put, List.setIfInBounds_toArray, List.set_cons_zero, List.set_cons_succ]) | (refine pi_skip rfl ?_; simp only [Act.put, List.setIfInBounds_toArray, List.set_cons_zero, List.set_cons_succ]))
            refine pi_done ?_
            clear e0 e1 e2 b0 b1 b2
            go_wp2_with fail
            go_meet
            exact ⟨d, rfl, HP1, HP2, HLU⟩
          · have hkI : ¬ (k : Int) < n := by omega
            refine region_pi [(0, true), (1, true), (2, true), (3, true), (4, true), (5, true), (6, true), (7, true), (8, true), (9, true), (10, true), (11, true), (12, true), (13, true)] (by kernel_rfl) (by kernel_rfl) ?_
            simp only [opsPi, List.filterMap_cons, List.filterMap_nil, List.getElem?_toArray, List.getElem?_cons_zero, List.getElem?_cons_succ, Option.map_some]
            rw [HU.out]
            repeat (first | (refine pi_take (v := _) rfl (fun W hW => by go_simp <;> exact rfl) ?_; simp only [Act.put, List.setIfInBounds_toArray, List.set_cons_zero, List.set_cons_succ]) | (refine pi_skip rfl ?_; simp only [Act.put, List.setIfInBounds_toArray, List.set_cons_zero, List.set_cons_succ]))
            refine pi_done ?_
            go_wp2_with fail
            go_meet
            exact ⟨false, rfl, hide (fun h => by cases h), hide (fun _ => putK_new (key := Kd.k) (by rw [HL.out]; exact hk) HK.out (fun y hy => by have := (List.getElem?_eq_some_iff.1 hy).1; rw [HL.out] at this; omega)), HLU⟩
        case rest =>
          obtain ⟨d, rfl, HP1, HP2, HLd⟩ := hcut
          clear HLc HLU HU b0 b1 b2
          cases d
          · have HP := hide (HP2.out rfl)
            obtain ⟨Y2, rfl⟩ : ∃ Y2, Y2 = wc := ⟨_, rfl⟩
            have HLw := hide (HLX.out.trans HLd.out)
            have hyz := HLw.out.size
            have hyx := HLd.out.size
            clear HP1 HP2 HD1 HD2
            go_upto_region 6 with fail
            obtain ⟨r, hr⟩ : ∃ r, n - k = r := ⟨_, rfl⟩
            have hrn : r ≤ n := by omega
            have HRN := hide hr
            have HDR := hide (show (kcs (l.drop k)).length = r * 4 by rw [kcs_len, List.length_drop, HL.out, hr])
            go_cut [6] (fun s wx => ∃ A6 c6, s = .slice A6 r c6 ∧ Hid (Row wx wx.heap.size A6 (kcs (l.drop k))) ∧ Hid (Le Y2 wx))
            case first =>
              have hz0 := own_zero Y2 w.heap.size hyz 47 4
              have hlz : Le w (Y2.alloc (.cells #[] 47)) := HLw.out.alloc hyz _
              have hly : Le Y2 (Y2.alloc (.cells #[] 47)) := (Le.refl _).alloc (Nat.le_refl _) _
              have HZ0 := hide (own_zero Y2 Y2.heap.size (Nat.le_refl _) 47 4)
              have HLZ := hide hlz
              have HLY := hide hly
              clear hz0 hlz hly
              by_cases hck : c = k
              · have hkn2 : n = k := by omega
                obtain rfl : r = 0 := by omega
                have hdr : l.drop k = [] := List.drop_of_length_le (by rw [HL.out]; omega)
                have HDR2 := hide hdr
                clear hr hdr
                subst hck
                subst hkn2
                go_wp2_with (at_builtin; refine wpList_append_row _ rfl (.tmp 38) (.tmp 41) 25 rfl Y2.heap.size 47 infoK Try.underlying25 rfl (by omega) (.slice (some ⟨Y2.heap.size, 0, none⟩) 0 0) 0 [] rfl HZ0.out 0 _ 0 _ [] rfl rfl (fun h => absurd rfl h) (fun u hu => by cases hu) (by simp only [maxLen]; omega) (by omega) (by simp) ?_; intro v' w' hown' hg hat; obtain ⟨A6, c6, rfl, -, -⟩ := own_form hown'; have HO6 := hide hown'; have HG6 := hide hg; clear hown' hg hat)
                go_meet
                exact ⟨_, _, rfl, hide (by rw [HDR2.out]; exact fun h => absurd rfl h), hide (Below.trans HLY.out (le_own HZ0.out HG6.out (by simp)))⟩
              · go_wp2_with (at_builtin; refine wpList_append_row _ rfl (.tmp 38) (.tmp 41) 25 rfl Y2.heap.size 47 infoK Try.underlying25 rfl (by omega) (.slice (some ⟨Y2.heap.size, 0, none⟩) 0 0) 0 [] rfl HZ0.out _ (some ⟨g, k * 4, none⟩) r (c - k) (kcs (l.drop k)) rfl HDR.out (HDRP.out k _ HLZ.out) kcs_one (by simp only [maxLen]; omega) (by omega) (by simp) ?_; intro v' w' hown' hg hat; obtain ⟨A6, c6, rfl, -, -⟩ := own_form hown'; have HO6 := hide hown'; have HG6 := hide hg; clear hown' hg hat)
                go_meet
                exact ⟨_, _, rfl, hide (by have := Row.of_own HO6.out; simpa using this), hide (Below.trans HLY.out (le_own HZ0.out HG6.out (by simp)))⟩
            case rest =>
              obtain ⟨A6, c6, rfl, HR6, HL6⟩ := hcut
              go_upto_region 7 with fail
              obtain ⟨Z, rfl⟩ : ∃ Z, Z = wc := ⟨_, rfl⟩
              obtain ⟨U, hU⟩ : ∃ U, Z.drew = U := ⟨_, rfl⟩
              have HLZU := hide (show Le Z U by rw [← hU]; exact (Le.refl Z).drew)
              have HLU := hide (show Le X U from (HLd.out.trans HL6.out).trans HLZU.out)
              have HU := hide hU
              clear hU
              have b0 : ∀ W, Le U W → W.cell? ⟨w.heap.size, 0, none⟩ = some (.int .i64 x.k.id) := fun W h => BX.out.later 0 _ rfl W (HLU.out.trans h)
              have b1 : ∀ W, Le U W → W.cell? ⟨w.heap.size, 1, none⟩ = some (.int .i64 x.k.bk) := fun W h => BX.out.later 1 _ rfl W (HLU.out.trans h)
              have b2 : ∀ W, Le U W → W.cell? ⟨w.heap.size, 2, none⟩ = some (.int .i64 x.k.rw) := fun W h => BX.out.later 2 _ rfl W (HLU.out.trans h)
              have b3 : ∀ W, Le U W → W.cell? ⟨w.heap.size, 3, none⟩ = some (.slice x.A x.n x.c) := fun W h => BX.out.later 3 _ rfl W (HLU.out.trans h)
              have hBU : B ≤ U.heap.size := Nat.le_trans hB (HLX.out.trans HLU.out).size
              have HTL := hide (show (kcs (l.take k)).length = k * 4 by rw [kcs_len, List.length_take, HL.out]; omega)
              have HCA := hide (Le.refl U)
              have HWU := hide (HLX.out.trans HLU.out)
              have hkc : k ≤ c := by omega
              refine region_at (Le U) 10 (by kernel_rfl) (by rw [HU.out]; exact Le.refl _) ?_
              rw [HU.out]
              refine at_seg [(1, 1), (2, 1), (3, 1), (5, 0), (8, 1)] 6 (by rfl) (by kernel_rfl) ?_
              simp only [opsPiG, List.filterMap_cons, List.filterMap_nil, List.getElem?_toArray, List.getElem?_cons_zero, List.getElem?_cons_succ, Option.map_some]
              repeat (first | (refine pig_any (v := _) rfl (fun W' => by go_simp <;> exact rfl) ?_; simp only [Act.put, List.setIfInBounds_toArray, List.set_cons_zero, List.set_cons_succ]) | (refine pig_take (v := _) rfl (fun W' hW' => by go_simp <;> exact rfl) ?_; simp only [Act.put, List.setIfInBounds_toArray, List.set_cons_zero, List.set_cons_succ]))
              refine pig_done ?_
              clear b0 b1 b2 b3
              show At _ _ _ (Le U) 10 6 _ _ U
              clear hkc
              refine at_two (i := 0) (j := 6) (fuel := 5) (by rfl) (by rfl) (by kernel_rfl) ?_ ?_
              · have HZ1 := hide (own_zero U U.heap.size (Nat.le_refl _) 47 4)
                have HLa := hide (show Le U (U.alloc (.cells #[] 47)) from (Le.refl _).alloc (Nat.le_refl _) _)
                have HWa := hide (HWU.out.trans HLa.out)
                go_wp2_with fail
                refine ⟨HLa.out, ?_⟩
                refine at_two (i := 4) (j := 6) (fuel := 4) (by rfl) (by rfl) (by kernel_rfl) ?_ ?_
                · show wpList _ _ _ ((Oper.mk (some 47) _ _ _ _ _) :: _) _ _
                  go_wp2_with (at_builtin; refine wpList_append_row _ rfl (.tmp 43) (.tmp 46) 25 rfl U.heap.size 47 infoK Try.underlying25 rfl (by omega) (.slice (some ⟨U.heap.size, 0, none⟩) 0 0) 0 [] rfl HZ1.out _ (some ⟨g, 0, none⟩) k c (kcs (l.take k)) rfl HTL.out (HTKP.out k _ HWa.out) kcs_one (by simp only [maxLen]; omega) (by omega) HLa.out.size ?_; intro v' w1 hown' hg hat; obtain ⟨A1, c1, rfl, -, -⟩ := own_form hown'; have HO1 := hide hown'; have HG1 := hide hg; clear hown' hg hat)
                  have HL1 := hide (show Le U w1 from Below.trans HLa.out (le_own HZ1.out HG1.out HLa.out.size))
                  have HP1 := hide (show w1.ownsRow U.heap.size 47 4 (.slice A1 (k) c1) (k) (kcs (l.take k)) by have := HO1.out; simpa [kcs_append] using this)
                  clear HO1
                  refine ⟨HL1.out, ?_⟩
                  refine at_seg [(6, 2), (7, 2), (9, 2), (10, 3)] 0 (by rfl) (by kernel_rfl) ?_
                  simp only [opsPiG, List.filterMap_cons, List.filterMap_nil, List.getElem?_toArray, List.getElem?_cons_zero, List.getElem?_cons_succ, Option.map_some]
                  refine pig_run ?_
                  go_wp2_with fail
                  obtain ⟨F, hF, BF, hLF⟩ : ∃ F, w1.alloc (.cells #[.int .i64 x.k.id, .int .i64 x.k.bk, .int .i64 x.k.rw, .slice x.A x.n x.c] 47) = F ∧ Box F w1.heap.size #[.int .i64 x.k.id, .int .i64 x.k.bk, .int .i64 x.k.rw, .slice x.A x.n x.c] 47 ∧ Le w1 F := ⟨_, rfl, box_new _ _ _, (Le.refl _).alloc (Nat.le_refl _) _⟩
                  rw [hF]
                  have HLF := hide (HL1.out.trans hLF)
                  have HOF := hide (own_below HP1.out hLF)
                  have BXF := hide BF
                  clear hF hLF BF
                  refine ⟨HLF.out, ?_⟩
                  refine pig_run ?_
                  go_wp2_with (at_builtin; refine wpList_append_row _ rfl (.tmp 47) (.tmp 49) 25 rfl U.heap.size 47 infoK Try.underlying25 rfl (by omega) (.slice A1 k c1) k (kcs (l.take k)) rfl HOF.out _ (some ⟨w1.heap.size, 0, none⟩) 1 1 (kcs [x]) rfl rfl (row_box BXF.out) kcs_one (by simp only [maxLen]; omega) (by omega) HLF.out.size ?_; intro v' w3 hown' hg hat; obtain ⟨A3, c3, rfl, -, -⟩ := own_form hown'; have HO3 := hide hown'; have HG3 := hide hg; clear hown' hg hat)
                  have HL3 := hide (show Le U w3 from Below.trans HLF.out (le_own HOF.out HG3.out HLF.out.size))
                  have HP3 := hide (show w3.ownsRow U.heap.size 47 4 (.slice A3 (k + 1) c3) (k + 1) (kcs (l.take k) ++ kcs [x]) by have := HO3.out; simpa [kcs_append] using this)
                  clear HO3
                  refine ⟨HL3.out, ?_⟩
                  refine pig_run ?_
                  have HS6 := hide ((HLZU.out.trans HL3.out).row HR6.out (Nat.le_refl _))
                  go_wp2_with (at_builtin; refine wpList_append_row _ rfl (.tmp 50) (.tmp 51) 25 rfl U.heap.size 47 infoK Try.underlying25 rfl (by omega) (.slice A3 (k + 1) c3) (k + 1) (kcs (l.take k) ++ kcs [x]) rfl HP3.out _ A6 r c6 (kcs (l.drop k)) rfl HDR.out HS6.out kcs_one (by simp only [maxLen]; omega) (by omega) HL3.out.size ?_; intro v' w4 hown' hg hat; obtain ⟨A4, c4, rfl, -, -⟩ := own_form hown'; have HO4 := hide hown'; have HG4 := hide hg; clear hown' hg hat)
                  have HL4 := hide (show Le U w4 from Below.trans HL3.out (le_own HP3.out HG4.out HL3.out.size))
                  refine ⟨HL4.out, ?_⟩
                  refine pig_late ?_
                  go_wp2_with fail
                  refine pig_done ?_
                  refine at_done (by kernel_rfl) ?_ 0
                  go_wp2_with fail
                  go_ret
                  obtain ⟨g', rfl⟩ := own_some HO4.out (by omega)
                  have hrn := HRN.out
                  exact ⟨g', _, _, rfl, by rw [HP.out, kcs_append, kcs_append]; exact own_more HO4.out hBU, by rw [HP.out]; simp [HL.out]; omega, by omega, (HLX.out.trans HLU.out).trans HL4.out⟩
                · obtain ⟨F, hF, BF, hLF⟩ : ∃ F, (U.alloc (.cells #[] 47)).alloc (.cells #[.int .i64 x.k.id, .int .i64 x.k.bk, .int .i64 x.k.rw, .slice x.A x.n x.c] 47) = F ∧ Box F (U.heap.size + 1) #[.int .i64 x.k.id, .int .i64 x.k.bk, .int .i64 x.k.rw, .slice x.A x.n x.c] 47 ∧ Le (U.alloc (.cells #[] 47)) F := ⟨_, rfl, by have := box_new (U.alloc (.cells #[] 47)) #[.int .i64 x.k.id, .int .i64 x.k.bk, .int .i64 x.k.rw, .slice x.A x.n x.c] 47; simpa using this, (Le.refl _).alloc (Nat.le_refl _) _⟩
                  have HF := hide hF
                  have HLF := hide (HLa.out.trans hLF)
                  have HWF := hide (HWU.out.trans HLF.out)
                  have HZF := hide (own_below HZ1.out hLF)
                  have BXF := hide BF
                  clear hF hLF BF
                  go_wp2_with fail
                  rw [HF.out]
                  refine ⟨HLF.out, ?_⟩
                  refine at_seg [(4, 2), (7, 2), (9, 2), (10, 3)] 0 (by rfl) (by kernel_rfl) ?_
                  simp only [opsPiG, List.filterMap_cons, List.filterMap_nil, List.getElem?_toArray, List.getElem?_cons_zero, List.getElem?_cons_succ, Option.map_some]
                  refine pig_run ?_
                  go_wp2_with (at_builtin; refine wpList_append_row _ rfl (.tmp 43) (.tmp 46) 25 rfl U.heap.size 47 infoK Try.underlying25 rfl (by omega) (.slice (some ⟨U.heap.size, 0, none⟩) 0 0) 0 [] rfl HZF.out _ (some ⟨g, 0, none⟩) k c (kcs (l.take k)) rfl HTL.out (HTKP.out k _ HWF.out) kcs_one (by simp only [maxLen]; omega) (by omega) HLF.out.size ?_; intro v' w1 hown' hg hat; obtain ⟨A1, c1, rfl, -, -⟩ := own_form hown'; have HO1 := hide hown'; have HG1 := hide hg; clear hown' hg hat)
                  have HL1 := hide (show Le U w1 from Below.trans HLF.out (le_own HZF.out HG1.out HLF.out.size))
                  have BX1 := hide (BXF.out.grown HG1.out (fun g hg => by simp [Value.ownBlock] at hg; omega))
                  have HP1 := hide (show w1.ownsRow U.heap.size 47 4 (.slice A1 (k) c1) (k) (kcs (l.take k)) by have := HO1.out; simpa [kcs_append] using this)
                  clear HO1
                  refine ⟨HL1.out, ?_⟩
                  refine pig_run ?_
                  go_wp2_with (at_builtin; refine wpList_append_row _ rfl (.tmp 47) (.tmp 49) 25 rfl U.heap.size 47 infoK Try.underlying25 rfl (by omega) (.slice A1 k c1) k (kcs (l.take k)) rfl HP1.out _ (some ⟨U.heap.size + 1, 0, none⟩) 1 1 (kcs [x]) rfl rfl (row_box BX1.out) kcs_one (by simp only [maxLen]; omega) (by omega) HL1.out.size ?_; intro v' w3 hown' hg hat; obtain ⟨A3, c3, rfl, -, -⟩ := own_form hown'; have HO3 := hide hown'; have HG3 := hide hg; clear hown' hg hat)
                  have HL3 := hide (show Le U w3 from Below.trans HL1.out (le_own HP1.out HG3.out HL1.out.size))
                  have HP3 := hide (show w3.ownsRow U.heap.size 47 4 (.slice A3 (k + 1) c3) (k + 1) (kcs (l.take k) ++ kcs [x]) by have := HO3.out; simpa [kcs_append] using this)
                  clear HO3
                  refine ⟨HL3.out, ?_⟩
                  refine pig_run ?_
                  have HS6 := hide ((HLZU.out.trans HL3.out).row HR6.out (Nat.le_refl _))
                  go_wp2_with (at_builtin; refine wpList_append_row _ rfl (.tmp 50) (.tmp 51) 25 rfl U.heap.size 47 infoK Try.underlying25 rfl (by omega) (.slice A3 (k + 1) c3) (k + 1) (kcs (l.take k) ++ kcs [x]) rfl HP3.out _ A6 r c6 (kcs (l.drop k)) rfl HDR.out HS6.out kcs_one (by simp only [maxLen]; omega) (by omega) HL3.out.size ?_; intro v' w4 hown' hg hat; obtain ⟨A4, c4, rfl, -, -⟩ := own_form hown'; have HO4 := hide hown'; have HG4 := hide hg; clear hown' hg hat)
                  have HL4 := hide (show Le U w4 from Below.trans HL3.out (le_own HP3.out HG4.out HL3.out.size))
                  refine ⟨HL4.out, ?_⟩
                  refine pig_late ?_
                  go_wp2_with fail
                  refine pig_done ?_
                  refine at_done (by kernel_rfl) ?_ 0
                  go_wp2_with fail
                  go_ret
                  obtain ⟨g', rfl⟩ := own_some HO4.out (by omega)
                  have hrn := HRN.out
                  exact ⟨g', _, _, rfl, by rw [HP.out, kcs_append, kcs_append]; exact own_more HO4.out hBU, by rw [HP.out]; simp [HL.out]; omega, by omega, (HLX.out.trans HLU.out).trans HL4.out⟩
              · obtain ⟨E, hE, BE, hLE⟩ : ∃ F, U.alloc (.cells #[.int .i64 x.k.id, .int .i64 x.k.bk, .int .i64 x.k.rw, .slice x.A x.n x.c] 47) = F ∧ Box F U.heap.size #[.int .i64 x.k.id, .int .i64 x.k.bk, .int .i64 x.k.rw, .slice x.A x.n x.c] 47 ∧ Le U F := ⟨_, rfl, box_new _ _ _, (Le.refl _).alloc (Nat.le_refl _) _⟩
                have hEs : E.heap.size = U.heap.size + 1 := by rw [← hE]; simp
                have HE := hide hE
                have hLF : Le E (E.alloc (.cells #[] 47)) := (Le.refl _).alloc (Nat.le_refl _) _
                obtain ⟨F, hF⟩ : ∃ F, E.alloc (.cells #[] 47) = F := ⟨_, rfl⟩
                have hZ := own_zero E U.heap.size (by omega) 47 4
                rw [hF] at hLF hZ
                rw [hEs] at hZ
                have HF := hide hF
                have HLE := hide hLE
                have HLF := hide (hLE.trans hLF)
                have HWF := hide (HWU.out.trans HLF.out)
                have HZF := hide hZ
                have BXF := hide (BE.below hLF BE.lt)
                have HES := hide hEs
                clear hE hF hLF hLE BE hZ hEs
                go_wp2_with fail
                rw [HE.out]
                refine ⟨HLE.out, ?_⟩
                refine at_seg [(0, 2), (4, 2), (7, 2), (9, 2), (10, 3)] 0 (by rfl) (by kernel_rfl) ?_
                simp only [opsPiG, List.filterMap_cons, List.filterMap_nil, List.getElem?_toArray, List.getElem?_cons_zero, List.getElem?_cons_succ, Option.map_some]
                refine pig_run ?_
                go_wp2_with fail
                rw [HF.out, HES.out]
                refine ⟨HLF.out, ?_⟩
                refine pig_run ?_
                go_wp2_with (at_builtin; refine wpList_append_row _ rfl (.tmp 43) (.tmp 46) 25 rfl U.heap.size 47 infoK Try.underlying25 rfl (by omega) (.slice (some ⟨U.heap.size + 1, 0, none⟩) 0 0) 0 [] rfl HZF.out _ (some ⟨g, 0, none⟩) k c (kcs (l.take k)) rfl HTL.out (HTKP.out k _ HWF.out) kcs_one (by simp only [maxLen]; omega) (by omega) HLF.out.size ?_; intro v' w1 hown' hg hat; obtain ⟨A1, c1, rfl, -, -⟩ := own_form hown'; have HO1 := hide hown'; have HG1 := hide hg; clear hown' hg hat)
                have HL1 := hide (show Le U w1 from Below.trans HLF.out (le_own HZF.out HG1.out HLF.out.size))
                have BX1 := hide (BXF.out.grown HG1.out (fun g hg => by simp [Value.ownBlock] at hg; omega))
                have HP1 := hide (show w1.ownsRow U.heap.size 47 4 (.slice A1 (k) c1) (k) (kcs (l.take k)) by have := HO1.out; simpa [kcs_append] using this)
                clear HO1
                refine ⟨HL1.out, ?_⟩
                refine pig_run ?_
                go_wp2_with (at_builtin; refine wpList_append_row _ rfl (.tmp 47) (.tmp 49) 25 rfl U.heap.size 47 infoK Try.underlying25 rfl (by omega) (.slice A1 k c1) k (kcs (l.take k)) rfl HP1.out _ (some ⟨U.heap.size, 0, none⟩) 1 1 (kcs [x]) rfl rfl (row_box BX1.out) kcs_one (by simp only [maxLen]; omega) (by omega) HL1.out.size ?_; intro v' w3 hown' hg hat; obtain ⟨A3, c3, rfl, -, -⟩ := own_form hown'; have HO3 := hide hown'; have HG3 := hide hg; clear hown' hg hat)
                have HL3 := hide (show Le U w3 from Below.trans HL1.out (le_own HP1.out HG3.out HL1.out.size))
                have HP3 := hide (show w3.ownsRow U.heap.size 47 4 (.slice A3 (k + 1) c3) (k + 1) (kcs (l.take k) ++ kcs [x]) by have := HO3.out; simpa [kcs_append] using this)
                clear HO3
                refine ⟨HL3.out, ?_⟩
                refine pig_run ?_
                have HS6 := hide ((HLZU.out.trans HL3.out).row HR6.out (Nat.le_refl _))
                go_wp2_with (at_builtin; refine wpList_append_row _ rfl (.tmp 50) (.tmp 51) 25 rfl U.heap.size 47 infoK Try.underlying25 rfl (by omega) (.slice A3 (k + 1) c3) (k + 1) (kcs (l.take k) ++ kcs [x]) rfl HP3.out _ A6 r c6 (kcs (l.drop k)) rfl HDR.out HS6.out kcs_one (by simp only [maxLen]; omega) (by omega) HL3.out.size ?_; intro v' w4 hown' hg hat; obtain ⟨A4, c4, rfl, -, -⟩ := own_form hown'; have HO4 := hide hown'; have HG4 := hide hg; clear hown' hg hat)
                have HL4 := hide (show Le U w4 from Below.trans HL3.out (le_own HP3.out HG4.out HL3.out.size))
                refine ⟨HL4.out, ?_⟩
                refine pig_late ?_
                go_wp2_with fail
                refine pig_done ?_
                refine at_done (by kernel_rfl) ?_ 0
                go_wp2_with fail
                go_ret
                obtain ⟨g', rfl⟩ := own_some HO4.out (by omega)
                have hrn := HRN.out
                exact ⟨g', _, _, rfl, by rw [HP.out, kcs_append, kcs_append]; exact own_more HO4.out hBU, by rw [HP.out]; simp [HL.out]; omega, by omega, (HLX.out.trans HLU.out).trans HL4.out⟩
          · have HP := hide (HP1.out rfl)
            go_wp2_with fail
            go_ret
            exact ⟨g, n, c, rfl, by rw [HP.out]; exact own_below HO.out (HLX.out.trans HLd.out), by rw [HP.out]; exact HL.out.symm, by omega, HLX.out.trans HLd.out⟩
      · have hd := HD1.out rfl
        have hkn := hd.1
        have HK2 := hide (show ∀ j z, j < k + 1 → l[j]? = some z → ltK z.k x.k = true from fun j z hj hz => by
          rcases Nat.lt_or_ge j k with h | h
          · exact HK.out j z h hz
          · obtain rfl : j = k := by omega
            exact hd.2 z hz)
        clear hd HD1 HD2
        go_wp2_with fail
        exact ⟨⟨k + 1, by go_num, by omega, HK2, HLc⟩, by simp [intOf]; omega⟩
#print axioms rput_any
end Go.Proofs.Ytjedpjfmlaganaa.vw
