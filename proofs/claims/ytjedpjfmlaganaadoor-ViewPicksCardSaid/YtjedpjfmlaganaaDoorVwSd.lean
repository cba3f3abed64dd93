/-
  The law on what is selected, walked (written by genVwSd.py).
-/
import Derived.Test.YtjedpjfmlaganaaDoorVwSc
import Derived.Test.YtjedpjfmlaganaaDoorVwSame
import Derived.Test.YtjedpjfmlaganaaDoorVwSh
import Derived.Test.YtjedpjfmlaganaaDoorVwShape3
namespace Go.Proofs.YtjedpjfmlaganaaDoor.vw
open Go.RowKit
set_option linter.unusedVariables false

/-- The rows that fit their columns. -/
def fitsR (cols : List va.Col) (x : Kd) : Bool := decide (va.rowV cols x.vals = 0)
theorem schema_len {cols : List va.Col} (h : va.schemaV cols = 0) : cols.length ≤ 6 := by
  unfold va.schemaV at h
  split at h
  · rename_i h1; exact h1.2.1
  · cases h
set_option maxRecDepth 100000 in
set_option maxHeartbeats 8000000 in
theorem selects_walk (w : World) (CA : Option Addr) (m cc : Nat) (cols : List va.Col) (hcl : cols.length = m) (hcm : m ≤ 9223372036854775807) (hcs : ∀ c ∈ cols, c.name.size ≤ 9223372036854775807) (hcr : Row w w.heap.size CA (ccs cols))
    (RA : Option Addr) (rn rc : Nat) (rows : List Kd) (hrl : rows.length = rn) (hrr : Row w w.heap.size RA (kcs rows)) (hrk : ∀ x ∈ rows, RIn w w.heap.size x)
    (PA : Option Addr) (pn pc : Nat) (pick : List Int) (hpl : pick.length = pn) (hpc : pn ≤ pc) (hpm : pc ≤ maxLen) (hpr : Row w w.heap.size PA (ints pick))
    (NA : Option Addr) (nn nc : Nat) (p : List pr.Nd) (hnl : p.length = nn) (hnc : nn ≤ nc) (hnm : nc ≤ maxLen) (hnr : Row w w.heap.size NA (ncs p)) (hnh : ∀ n ∈ p, Has w w.heap.size n) (hnw : ∀ n ∈ p, WfN n) (hT : Tabs8 w) :
    Calls Tryd.prog 3 #[.slice CA m cc, .slice RA rn rc, .agg #[.slice PA pn pc, .slice NA nn nc]] w fun e w' => e = .returned (.bool true) ∧ Below w.heap.size w w' := by
  obtain ⟨X, hX, bX, hlX⟩ : ∃ X, w.alloc (.cells #[.slice PA pn pc, .slice NA nn nc] 27) = X ∧ Box X w.heap.size #[.slice PA pn pc, .slice NA nn nc] 27 ∧ Le w X := ⟨_, rfl, box_new _ _ _, (Below.refl _ _).alloc (Nat.le_refl _) _⟩
  have HX := hide hX
  have BX := hide bX
  have HLX := hide hlX
  have hsh := hide (shown_any X)
  have hsc := hide (fun (W : World) (h : Le w W) => refschema_any W CA m cc cols hcl hcm hcs ((h.row hcr (Nat.le_refl _)).more h.size))
  obtain ⟨sv, hsv⟩ : ∃ s, va.schemaV cols = s := ⟨_, rfl⟩
  rw [hsv] at hsc
  obtain ⟨n2, hn2⟩ : ∃ k, min nn 45 = k := ⟨_, rfl⟩
  obtain ⟨p2, hp2⟩ : ∃ k, min pn 8 = k := ⟨_, rfl⟩
  obtain ⟨K, hK⟩ : ∃ k, min rn 60 = k := ⟨_, rfl⟩
  have HNL := hide (show (p.take 45).length = n2 by rw [List.length_take, hnl, ← hn2]; omega)
  have hnr2 := hnr.take (45 * 7)
  rw [← ncs_take] at hnr2
  have HNR := hide hnr2
  have HNH := hide (show ∀ n ∈ p.take 45, Has w w.heap.size n from fun n hn => hnh n (List.mem_of_mem_take hn))
  have HNW := hide (show ∀ n ∈ p.take 45, WfN n from fun n hn => hnw n (List.mem_of_mem_take hn))
  have HPL := hide (show (pick.take 8).length = p2 by rw [List.length_take, hpl, ← hp2]; omega)
  have hpr2 := hpr.take 8
  rw [ints_take] at hpr2
  have HPR := hide hpr2
  clear hpr2
  have hn45 : n2 ≤ 45 := by omega
  have hp8 : p2 ≤ 8 := by omega
  unfold maxLen at hnm hpm
  have HCR := hide hcr
  have HRL := hide hrl
  have HRR := hide hrr
  have HRK := hide hrk
  have HT := hide hT
  have hrw := hide (fun (W : World) (h : Le w W) (x : Kd) (hx : RIn w w.heap.size x) => refrow_any W CA m cc cols hcl hcm ((h.row hcr (Nat.le_refl _)).more h.size) x.A x.n x.c x.vals hx.1 hx.2.1 hx.2.2.2 ((h.row hx.2.2.1 (Nat.le_refl _)).more h.size) (hT.le h))
  have HSZ := hide (fun (h : sv = 0) => schema_len (hsv.trans h))
  have HCL := hide hcl
  clear hX bX hlX hsv hnl hnr hnr2 hnh hnw hpl hpr hcr hrl hrr hrk hT hcl hcs
  go_enter Tryd.func3, Tryd.ntmps3
  go_upto_region 1 with fail
  rw [HX.out]
  go_wp2_with fail
  refine hsh.out.mono ?_
  rintro e w1 ⟨rfl, hb⟩
  have HL1 := hide (HLX.out.trans hb)
  have BX1 := hide (BX.out.below hb BX.out.lt)
  clear hb hsh
  go_wp2_with fail
  refine (hsc.out w1 HL1.out).mono ?_
  rintro e w2 ⟨rfl, hb⟩
  have HL2 := hide (HL1.out.trans hb)
  have BX2 := hide (BX1.out.below hb BX1.out.lt)
  clear hb hsc
  by_cases hs0 : sv = 0
  case neg =>
    have hs1 : (sv == 0) = false := by simpa using hs0
    go_wp2_with fail
    go_ret
    exact ⟨rfl, HL2.out⟩
  case pos =>
    subst hs0
    have hm6 := HSZ.out rfl
    rw [HCL.out] at hm6
    have y1 := BX2.out.cell 1 (.slice NA nn nc) rfl
    have z1 := BX2.out.frozen 1
    go_upto_if 23 with fail
    go_cut [7] (fun s wx => s = .bool true ∧ Hid (Box wx w.heap.size #[.slice PA pn pc, .slice NA n2 nc] 27) ∧ Hid (Le w wx))
    case first =>
      by_cases hlim : 45 < nn
      · have hk2 : n2 = 45 := by omega
        have hd : decide ((45 : Int) < nn) = true := decide_eq_true (by omega)
        have hmx : 45 ≤ nc := by omega
        go_wp2_with fail
        go_meet
        exact ⟨rfl, hide (by rw [hk2]; exact BX2.out.set 1 _), hide (Below.setCell HL2.out (Nat.le_refl _) _)⟩
      · have hk2 : n2 = nn := by omega
        have hd : decide ((45 : Int) < nn) = false := decide_eq_false (by omega)
        go_wp2_with fail
        go_meet
        exact ⟨rfl, by rw [hk2]; exact BX2, HL2⟩
    case rest =>
      obtain ⟨rfl, BX3, HL3⟩ := hcut
      clear y1 z1
      obtain ⟨Y3, rfl⟩ : ∃ Y, Y = wc := ⟨_, rfl⟩
      have y0 := BX3.out.cell 0 (.slice PA pn pc) rfl
      have z0 := BX3.out.frozen 0
      go_upto_if 31 with fail
      go_cut [7] (fun s wx => s = .bool true ∧ Hid (Box wx w.heap.size #[.slice PA p2 pc, .slice NA n2 nc] 27) ∧ Hid (Le w wx))
      case first =>
        by_cases hlim : 8 < pn
        · have hk2 : p2 = 8 := by omega
          have hd : decide ((8 : Int) < pn) = true := decide_eq_true (by omega)
          have hmx : 8 ≤ pc := by omega
          go_wp2_with fail
          go_meet
          exact ⟨rfl, hide (by rw [hk2]; exact BX3.out.set 0 _), hide (Below.setCell HL3.out (Nat.le_refl _) _)⟩
        · have hk2 : p2 = pn := by omega
          have hd : decide ((8 : Int) < pn) = false := decide_eq_false (by omega)
          go_wp2_with fail
          go_meet
          exact ⟨rfl, by rw [hk2]; exact BX3, HL3⟩
      case rest =>
        obtain ⟨rfl, BX4, HL4⟩ := hcut
        clear y0 z0
        have BXq := BX4
        have HLq := HL4
        obtain ⟨Z0, rfl⟩ : ∃ Y, Y = wc := ⟨_, rfl⟩
        go_upto_region 9 with fail
        obtain ⟨N, hN, hon, hlN⟩ : ∃ X, Z0.alloc (.cells #[] 37) = X ∧ X.ownsRow Z0.heap.size 37 4 (.slice (some ⟨Z0.heap.size, 0, none⟩) 0 0) 0 [] ∧ Le Z0 X := ⟨_, rfl, own_zero2 Z0 _ (Nat.le_refl _) _ _, (Below.refl _ _).alloc (Nat.le_refl _) _⟩
        rw [hN]
        have HON := hide hon
        have HLN := hide hlN
        clear hN hon hlN
        go_wp2_with fail
        go_loopw [8, 9] (fun s t wr => ∃ (i k cs : Nat) (As : Option Addr) (S : List Kd), s = .slice As k cs ∧ t = .int .i64 i ∧ i ≤ K ∧ k ≤ i ∧ Hid (S = (rows.take i).filter (fitsR cols)) ∧ Hid (S.length = k) ∧ Hid (wr.ownsRow Z0.heap.size 37 4 (.slice As k cs) k (kcs S)) ∧ Hid (Le Z0 wr)) (fun _ t _ => K - (intOf t).toNat)
        case atStart => exact ⟨0, 0, 0, _, [], rfl, rfl, Nat.zero_le _, Nat.le_refl _, hide rfl, hide rfl, HON, HLN⟩
        case round =>
          obtain ⟨i, k, cs, As, S, rfl, rfl, hi, hki, HS, HSL, HO, HLr⟩ := hrel
          obtain ⟨Z, rfl⟩ : ∃ Z, Z = wr := ⟨_, rfl⟩
          have HLz := hide (HLq.out.trans HLr.out)
          by_cases hir : i < K
          · obtain ⟨u, hu⟩ : ∃ u, rows[i]? = some u := ⟨_, List.getElem?_eq_getElem (by rw [HRL.out]; omega)⟩
            obtain ⟨bA, oA, rfl, hbA, r0, r1, r2, r3⟩ := row_kd HRR.out hu
            have hiI : (i : Int) < rn := by omega
            have hi60 : (i : Int) < 60 := by omega
            have HRO := hide (And.intro r0 (And.intro r1 r2))
            have e3 : Z.cell? ⟨bA, oA + i * 4 + 3, none⟩ = some (.slice u.A u.n u.c) := (HLz.out.cell (p := ⟨bA, oA + i * 4 + 3, none⟩) hbA).trans r3
            have HR3 := hide r3
            have hst := seen_step (p := fitsR cols) hu
            rw [← HS.out] at hst
            have hrr := hide (hrw.out Z HLz.out u (HRK.out u (List.mem_of_getElem? hu)))
            obtain ⟨rv, hrv⟩ : ∃ r, va.rowV cols u.vals = r := ⟨_, rfl⟩
            rw [hrv] at hrr
            have HRV := hide hrv
            have HST := hide hst
            clear r0 r1 r2 r3 hu hst hrv
            go_wp2_with fail
            refine hrr.out.mono ?_
            rintro e w3 ⟨rfl, hb⟩
            have HL3 := hide (HLz.out.trans hb)
            have HLy := hide (HLr.out.trans hb)
            have HO3 := hide (own_below HO.out hb)
            clear hb e3 hrr
            by_cases hr0 : rv = 0
            · subst hr0
              have f0 : w3.cell? ⟨bA, oA + i * 4, none⟩ = some (.int .i64 u.k.id) := (HL3.out.cell (p := ⟨bA, oA + i * 4, none⟩) hbA).trans HRO.out.1
              have f1 : w3.cell? ⟨bA, oA + i * 4 + 1, none⟩ = some (.int .i64 u.k.bk) := (HL3.out.cell (p := ⟨bA, oA + i * 4 + 1, none⟩) hbA).trans HRO.out.2.1
              have f2 : w3.cell? ⟨bA, oA + i * 4 + 2, none⟩ = some (.int .i64 u.k.rw) := (HL3.out.cell (p := ⟨bA, oA + i * 4 + 2, none⟩) hbA).trans HRO.out.2.2
              have f3 : w3.cell? ⟨bA, oA + i * 4 + 3, none⟩ = some (.slice u.A u.n u.c) := (HL3.out.cell (p := ⟨bA, oA + i * 4 + 3, none⟩) hbA).trans HR3.out
              have hz3 := HLy.out.size
              have HSN := hide (show (rows.take (i + 1)).filter (fitsR cols) = S ++ [u] by rw [HST.out, if_pos (by unfold fitsR; rw [HRV.out]; rfl)])
              go_wp2_with (at_builtin; refine wpList_append_row _ rfl (.tmp 55) (.tmp 60) 23 rfl Z0.heap.size 37 infoK Tryd.underlying23 rfl (by omega) (.slice As k cs) k _ rfl (HO3.out.alloc _) _ (some ⟨w3.heap.size, 0, none⟩) 1 1 (kcs [u]) rfl rfl (row_new w3 #[.int .i64 u.k.id, .int .i64 u.k.bk, .int .i64 u.k.rw, .slice u.A u.n u.c] _ (0, 0)) kcs_one (by simp only [maxLen]; omega) (by omega) (by simp; omega) ?_; intro v' w' hown' hg hat; obtain ⟨A3, c3, rfl, -, -⟩ := own_form hown'; have HO' := hide hown'; have HGR := hide hg; clear hown' hg hat)
              have HL4 := hide (show Le Z0 w' from Below.trans HLy.out (Below.trans ((Below.refl _ _).alloc hz3 _) (below_own HGR.out (Nat.le_refl _) (by simp; omega) (fun g h => own_ge HO3.out h (Nat.le_refl _)))))
              exact ⟨⟨i + 1, k + 1, c3, A3, S ++ [u], rfl, by go_num, by omega, by omega, hide HSN.out.symm, hide (by simp [HSL.out]), hide (by rw [kcs_append]; exact HO'.out), HL4⟩, by simp [intOf]; omega⟩
            · have hr1 : (rv == 0) = false := by simpa using hr0
              have HSN := hide (show (rows.take (i + 1)).filter (fitsR cols) = S by rw [HST.out, if_neg (by unfold fitsR; rw [HRV.out, decide_eq_false hr0]; simp)])
              go_wp2_with fail
              exact ⟨⟨i + 1, k, cs, As, S, rfl, by go_num, by omega, by omega, hide HSN.out.symm, HSL, HO3, HLy⟩, by simp [intOf]; omega⟩
          · obtain rfl : i = K := by omega
            have HOWN := hide (show ∀ x ∈ S, KHas Z Z.heap.size x ∧ x.n = m from fun x hx => by
              rw [HS.out] at hx
              obtain ⟨h1, h2⟩ := List.mem_filter.1 hx
              have h3 := HRK.out x (List.mem_of_mem_take h1)
              have h4 := row_zero (of_decide_eq_true h2)
              rw [HCL.out, h3.1] at h4
              exact ⟨⟨h3.1, by omega, (HLz.out.row h3.2.2.1 (Nat.le_refl _)).more HLz.out.size⟩, h4.symm⟩)
            have HSR := hide (Row.of_own HO.out)
            have hk60 : k ≤ 60 := by omega
            have BXz := hide (BXq.out.below HLr.out BXq.out.lt)
            go_upto_region 10 with fail
            go_cut [44] (fun s wx => s = .bool false ∧ Z = wx)
            case first =>
              by_cases hjg : i < rn
              · have hjI : (i : Int) < rn := by omega
                have hj60 : decide ((i : Int) < 60) = false := decide_eq_false (by omega)
                have hj61 : ¬ (i : Int) < 60 := by omega
                go_wp2_with fail
                go_meet
                exact ⟨rfl, rfl⟩
              · have hjI : decide ((i : Int) < rn) = false := decide_eq_false (by omega)
                have hjI2 : ¬ (i : Int) < rn := by omega
                go_wp2_with fail
                go_meet
                exact ⟨rfl, rfl⟩
            case rest =>
              obtain ⟨rfl, rfl⟩ := hcut
              have g0 := BXz.out.cell 0 (.slice PA p2 pc) rfl
              have g1 := BXz.out.cell 1 (.slice NA n2 nc) rfl
              have hse := hide (select_any Z CA m cc cols HCL.out (by omega) ((HLz.out.row HCR.out (Nat.le_refl _)).more HLz.out.size) As k cs S HSL.out hk60 HSR.out HOWN.out PA p2 pc (pick.take 8) HPL.out (by omega) ((HLz.out.row HPR.out (Nat.le_refl _)).more HLz.out.size) NA n2 nc (p.take 45) HNL.out (by omega) ((HLz.out.row HNR.out (Nat.le_refl _)).more HLz.out.size) (fun n hn => ((HNH.out n hn).on HLz.out (Nat.le_refl _)).more HLz.out.size) HNW.out (HT.out.le HLz.out))
              go_wp2_with fail
              refine hse.out.mono ?_
              rintro e w5 ⟨A5, n5, c5, S5, er, rfl, her, h1, h2, h3, h4, h5⟩
              have H1 := hide h1
              have H2 := hide h2
              have H3 := hide h3
              have H4 := hide h4
              have HER := hide her
              have HL5 := hide (HLz.out.trans h5)
              have HZ5 := hide h5
              have BX5 := hide (BXz.out.below h5 BXz.out.lt)
              have hn5 : n5 ≤ 60 := by
                have := congrArg List.length h2
                rw [List.length_map, h1] at this
                rw [this]
                split
                · unfold selC
                  rw [List.length_map]
                  have := List.length_filter_le (askedR (p.take 45)) S
                  rw [HSL.out] at this
                  omega
                · simp
              clear h1 h2 h3 h4 h5 her hse g0 g1
              have g0 := BX5.out.cell 0 (.slice PA p2 pc) rfl
              have g1 := BX5.out.cell 1 (.slice NA n2 nc) rfl
              have hre := hide (refselect_any w5 CA m cc cols HCL.out (by omega) ((HL5.out.row HCR.out (Nat.le_refl _)).more HL5.out.size) As k cs S HSL.out hk60 ((HZ5.out.row HSR.out (Nat.le_refl _)).more HZ5.out.size) (fun x hx => ⟨(HOWN.out x hx).1.on HZ5.out (Nat.le_refl _) HZ5.out.size, (HOWN.out x hx).2⟩) PA p2 pc (pick.take 8) HPL.out (by omega) ((HL5.out.row HPR.out (Nat.le_refl _)).more HL5.out.size) NA n2 nc (p.take 45) HNL.out (by omega) ((HL5.out.row HNR.out (Nat.le_refl _)).more HL5.out.size) (fun n hn => ((HNH.out n hn).on HL5.out (Nat.le_refl _)).more HL5.out.size) (HT.out.le HL5.out))
              go_wp2_with fail
              refine hre.out.mono ?_
              rintro e w6 ⟨A6, n6, c6, S6, er2, rfl, her2, h1, h2, h3, h4, h5⟩
              have HL6 := hide (HL5.out.trans h5)
              have hST : S5.map cont = S6.map cont := H2.out.trans h2.symm
              have hlen : n5 = n6 := by
                have := congrArg List.length hST
                rw [List.length_map, List.length_map, H1.out, h1] at this
                exact this
              subst hlen
              obtain rfl : er = er2 := HER.out.trans her2.symm
              have hsm := hide (same_any w6 A5 A6 n5 c5 c6 S5 S6 H1.out (by omega) hST ((h5.row H3.out (Nat.le_refl _)).more h5.size) h3 (fun x hx => (H4.out x hx).on h5 (Nat.le_refl _) h5.size) h4)
              have hee : (er == er) = true := by simp
              clear her2 h1 h2 h3 h4 h5 hST hre g0 g1
              go_wp2_with fail
              refine hsm.out.mono ?_
              rintro e w7 ⟨rfl, hb⟩
              have HL7 := hide (HL6.out.trans hb)
              clear hb hsm
              go_wp2_with fail
              go_ret
              exact ⟨rfl, HL7.out⟩
#print axioms selects_walk
end Go.Proofs.YtjedpjfmlaganaaDoor.vw
