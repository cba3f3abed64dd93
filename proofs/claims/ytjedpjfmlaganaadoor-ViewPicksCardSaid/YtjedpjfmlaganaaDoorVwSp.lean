/-
  The law on True, Not True, and a predicate and its Not, walked (written by genVwSp.py).
-/
import Derived.Test.YtjedpjfmlaganaaDoorVwSd
import Derived.Test.YtjedpjfmlaganaaDoorRegionT
import Derived.Test.YtjedpjfmlaganaaDoorVwSh
import Derived.Test.YtjedpjfmlaganaaDoorVwShape3
namespace Go.Proofs.YtjedpjfmlaganaaDoor.vw
open Go.RowKit
set_option linter.unusedVariables false


theorem may_true (cols : List va.Col) : pr.mayP cols [ndTrue] = true := rfl
theorem may_not (cols : List va.Col) (b : Nat) : pr.mayP cols [ndTrue, nx 3 b [0]] = true := rfl
theorem asked_true (x : Kd) : askedR [ndTrue] x = true := rfl
theorem asked_not (x : Kd) (b : Nat) : askedR [ndTrue, nx 3 b [0]] x = false := rfl
theorem filter_two {α : Type} {p q : α → Bool} (h : ∀ x, p x = true → q x = false) : ∀ l : List α, (l.filter p).length + (l.filter q).length ≤ l.length
  | [] => by simp
  | a :: l => by
    have ih := filter_two h l
    cases hp : p a with
    | true => simp only [List.filter_cons, hp, h a hp, if_true, Bool.false_eq_true, if_false, List.length_cons]; omega
    | false =>
      cases hq : q a with
      | true => simp only [List.filter_cons, hp, hq, if_true, Bool.false_eq_true, if_false, List.length_cons]; omega
      | false => simp only [List.filter_cons, hp, hq, Bool.false_eq_true, if_false, List.length_cons]; omega
theorem asked_both {l : List pr.Nd} {T : Nat} (hl : l.length = T + 1) (b : Nat) (x : Kd) (h : askedR l x = true) : askedR (l ++ [nx 3 b [(T : Int)]]) x = false := by
  have h1 : pr.evalV l x.vals = 2 := of_decide_eq_true h
  have h2 := (turned hl 2 h1 b 0).2.1
  unfold askedR
  rw [h2]; rfl
/-- A Select of no columns. -/
theorem sel_all {w w' : World} {cols : List va.Col} {rows : List Kd} {p : List pr.Nd} {e : Ending} (h : Sel w cols rows [] p e w') :
    ∃ (A : Option Addr) (n c : Nat) (S : List Kd), e = .returned (.tuple #[.slice A n c, .int .i64 (if pr.mayP cols p then 0 else 1)]) ∧ S.length = n ∧ n = (if pr.mayP cols p then (rows.filter (askedR p)).length else 0) ∧
      (pr.mayP cols p = true → S.map cont = (rows.filter (askedR p)).map fun x => (x.k, [])) ∧ Row w' w'.heap.size A (kcs S) ∧ (∀ x ∈ S, KHas w' w'.heap.size x) ∧ Le w w' := by
  obtain ⟨A, n, c, S, er, rfl, h1, h2, h3, h4, h5, h6⟩ := h
  have hok : selOk cols p [] = pr.mayP cols p := by simp [selOk]
  rw [hok] at h1 h3
  subst h1
  refine ⟨A, n, c, S, rfl, h2, ?_, fun hm => ?_, h4, h5, h6⟩
  · have := congrArg List.length h3
    rw [List.length_map, h2] at this
    rw [this]
    split
    · unfold selC; rw [List.length_map]
    · rfl
  · rw [h3, if_pos hm]; rfl
theorem wfn_nx (op : Int) (b : Nat) (L : List Int) : WfN (nx op b L) := ⟨show (Lit.int .i64 0).wf = true by decide, fun v hv => by cases hv⟩
theorem wfn_true : WfN ndTrue := ⟨by decide, fun v hv => by cases hv⟩
theorem filter_all {α : Type} {p : α → Bool} (h : ∀ x, p x = true) (l : List α) : l.filter p = l := List.filter_eq_self.2 fun x _ => h x
theorem filter_no {α : Type} {p : α → Bool} (h : ∀ x, p x = false) (l : List α) : l.filter p = [] := List.filter_eq_nil_iff.2 fun x _ => by rw [h x]; simp
set_option maxRecDepth 100000 in
set_option maxHeartbeats 8000000 in
theorem picks_walk (w : World) (CA : Option Addr) (m cc : Nat) (cols : List va.Col) (hcl : cols.length = m) (hcm : m ≤ 9223372036854775807) (hcs : ∀ c ∈ cols, c.name.size ≤ 9223372036854775807) (hcr : Row w w.heap.size CA (ccs cols))
    (RA : Option Addr) (rn rc : Nat) (rows : List Kd) (hrl : rows.length = rn) (hrr : Row w w.heap.size RA (kcs rows)) (hrk : ∀ x ∈ rows, RIn w w.heap.size x)
    (PA : Option Addr) (pn pc : Nat) (pick : List Int) (hpl : pick.length = pn) (hpc : pn ≤ pc) (hpm : pc ≤ maxLen) (hpr : Row w w.heap.size PA (ints pick))
    (NA : Option Addr) (nn nc : Nat) (p : List pr.Nd) (hnl : p.length = nn) (hnc : nn ≤ nc) (hnm : nc ≤ maxLen) (hnr : Row w w.heap.size NA (ncs p)) (hnh : ∀ n ∈ p, Has w w.heap.size n) (hnw : ∀ n ∈ p, WfN n) (hT : Tabs8 w) :
    Calls Tryd.prog 4 #[.slice CA m cc, .slice RA rn rc, .agg #[.slice PA pn pc, .slice NA nn nc]] w fun e w' => e = .returned (.bool true) ∧ Below w.heap.size w w' := by
  obtain ⟨X, hX, bX, hlX⟩ : ∃ X, w.alloc (.cells #[.slice PA pn pc, .slice NA nn nc] 27) = X ∧ Box X w.heap.size #[.slice PA pn pc, .slice NA nn nc] 27 ∧ Le w X := ⟨_, rfl, box_new _ _ _, (Below.refl _ _).alloc (Nat.le_refl _) _⟩
  have HX := hide hX
  have BX := hide bX
  have HLX := hide hlX
  have hsh := hide (shown_any X)
  have hsc := hide (fun (W : World) (h : Le w W) => refschema_any W CA m cc cols hcl hcm hcs ((h.row hcr (Nat.le_refl _)).more h.size))
  obtain ⟨sv, hsv⟩ : ∃ s, va.schemaV cols = s := ⟨_, rfl⟩
  rw [hsv] at hsc
  obtain ⟨n2, hn2⟩ : ∃ k, min nn 30 = k := ⟨_, rfl⟩
  obtain ⟨K, hK⟩ : ∃ k, min rn 60 = k := ⟨_, rfl⟩
  have HNL := hide (show (p.take 30).length = n2 by rw [List.length_take, hnl, ← hn2]; omega)
  have hnr2 := hnr.take (30 * 7)
  rw [← ncs_take] at hnr2
  have HNR := hide hnr2
  have HNH := hide (show ∀ n ∈ p.take 30, Has w w.heap.size n from fun n hn => hnh n (List.mem_of_mem_take hn))
  have HNW := hide (show ∀ n ∈ p.take 30, WfN n from fun n hn => hnw n (List.mem_of_mem_take hn))
  have hn45 : n2 ≤ 30 := by omega
  unfold maxLen at hnm hpm
  have HCR := hide hcr
  have HRL := hide hrl
  have HRR := hide hrr
  have HRK := hide hrk
  have HT := hide hT
  have hrw := hide (fun (W : World) (h : Le w W) (x : Kd) (hx : RIn w w.heap.size x) => refrow_any W CA m cc cols hcl hcm ((h.row hcr (Nat.le_refl _)).more h.size) x.A x.n x.c x.vals hx.1 hx.2.1 hx.2.2.2 ((h.row hx.2.2.1 (Nat.le_refl _)).more h.size) (hT.le h))
  have HSZ := hide (fun (h : sv = 0) => schema_len (hsv.trans h))
  have HCL := hide hcl
  clear hX bX hlX hsv hnl hnr hnr2 hnh hnw hpl hpr hcr hrl hrr hrk hT hcl hcs
  go_enter Tryd.func4, Tryd.ntmps4
  go_upto_region 1 with fail
  rw [HX.out]
  go_wp2_with fail
  refine hsh.out.mono ?_
  rintro e w1 ⟨rfl, hb⟩
  have HL1 := hide (HLX.out.trans hb)
  have BX1 := hide (BX.out.below hb BX.out.lt)
  clear hb hsh
  go_wp2_with fail
  refine (hsc.out w1 HL1.out).mono ?_
  rintro e w2 ⟨rfl, hb⟩
  have HL2 := hide (HL1.out.trans hb)
  have BX2 := hide (BX1.out.below hb BX1.out.lt)
  clear hb hsc
  by_cases hs0 : sv = 0
  case neg =>
    have hs1 : (sv == 0) = false := by simpa using hs0
    go_wp2_with fail
    go_ret
    exact ⟨rfl, HL2.out⟩
  case pos =>
    subst hs0
    have hm6 := HSZ.out rfl
    rw [HCL.out] at hm6
    have y1 := BX2.out.cell 1 (.slice NA nn nc) rfl
    have z1 := BX2.out.frozen 1
    go_upto_if 27 with fail
    go_cut [7] (fun s wx => s = .bool true ∧ Hid (Box wx w.heap.size #[.slice PA pn pc, .slice NA n2 nc] 27) ∧ Hid (Le w wx))
    case first =>
      by_cases hlim : 30 < nn
      · have hk2 : n2 = 30 := by omega
        have hd : decide ((30 : Int) < nn) = true := decide_eq_true (by omega)
        have hmx : 30 ≤ nc := by omega
        go_wp2_with fail
        go_meet
        exact ⟨rfl, hide (by rw [hk2]; exact BX2.out.set 1 _), hide (Below.setCell HL2.out (Nat.le_refl _) _)⟩
      · have hk2 : n2 = nn := by omega
        have hd : decide ((30 : Int) < nn) = false := decide_eq_false (by omega)
        go_wp2_with fail
        go_meet
        exact ⟨rfl, by rw [hk2]; exact BX2, HL2⟩
    case rest =>
      obtain ⟨rfl, BX3, HL3⟩ := hcut
      clear y1 z1
      have BXq := BX3
      have HLq := HL3
      obtain ⟨Z0, rfl⟩ : ∃ Y, Y = wc := ⟨_, rfl⟩
      go_upto_region 7 with fail
      obtain ⟨N, hN, hon, hlN⟩ : ∃ X, Z0.alloc (.cells #[] 37) = X ∧ X.ownsRow Z0.heap.size 37 4 (.slice (some ⟨Z0.heap.size, 0, none⟩) 0 0) 0 [] ∧ Le Z0 X := ⟨_, rfl, own_zero2 Z0 _ (Nat.le_refl _) _ _, (Below.refl _ _).alloc (Nat.le_refl _) _⟩
      rw [hN]
      have HON := hide hon
      have HLN := hide hlN
      clear hN hon hlN
      go_wp2_with fail
      go_loopw [8, 9] (fun s t wr => ∃ (i k cs : Nat) (As : Option Addr) (S : List Kd), s = .slice As k cs ∧ t = .int .i64 i ∧ i ≤ K ∧ k ≤ i ∧ Hid (S = (rows.take i).filter (fitsR cols)) ∧ Hid (S.length = k) ∧ Hid (wr.ownsRow Z0.heap.size 37 4 (.slice As k cs) k (kcs S)) ∧ Hid (Le Z0 wr)) (fun _ t _ => K - (intOf t).toNat)
      case atStart => exact ⟨0, 0, 0, _, [], rfl, rfl, Nat.zero_le _, Nat.le_refl _, hide rfl, hide rfl, HON, HLN⟩
      case round =>
        obtain ⟨i, k, cs, As, S, rfl, rfl, hi, hki, HS, HSL, HO, HLr⟩ := hrel
        obtain ⟨Z, rfl⟩ : ∃ Z, Z = wr := ⟨_, rfl⟩
        have HLz := hide (HLq.out.trans HLr.out)
        by_cases hir : i < K
        · obtain ⟨u, hu⟩ : ∃ u, rows[i]? = some u := ⟨_, List.getElem?_eq_getElem (by rw [HRL.out]; omega)⟩
          obtain ⟨bA, oA, rfl, hbA, r0, r1, r2, r3⟩ := row_kd HRR.out hu
          have hiI : (i : Int) < rn := by omega
          have hi60 : (i : Int) < 60 := by omega
          have HRO := hide (And.intro r0 (And.intro r1 r2))
          have e3 : Z.cell? ⟨bA, oA + i * 4 + 3, none⟩ = some (.slice u.A u.n u.c) := (HLz.out.cell (p := ⟨bA, oA + i * 4 + 3, none⟩) hbA).trans r3
          have HR3 := hide r3
          have hst := seen_step (p := fitsR cols) hu
          rw [← HS.out] at hst
          have hrr := hide (hrw.out Z HLz.out u (HRK.out u (List.mem_of_getElem? hu)))
          obtain ⟨rv, hrv⟩ : ∃ r, va.rowV cols u.vals = r := ⟨_, rfl⟩
          rw [hrv] at hrr
          have HRV := hide hrv
          have HST := hide hst
          clear r0 r1 r2 r3 hu hst hrv
          go_wp2_with fail
          refine hrr.out.mono ?_
          rintro e w3 ⟨rfl, hb⟩
          have HL3 := hide (HLz.out.trans hb)
          have HLy := hide (HLr.out.trans hb)
          have HO3 := hide (own_below HO.out hb)
          clear hb e3 hrr
          by_cases hr0 : rv = 0
          · subst hr0
            have f0 : w3.cell? ⟨bA, oA + i * 4, none⟩ = some (.int .i64 u.k.id) := (HL3.out.cell (p := ⟨bA, oA + i * 4, none⟩) hbA).trans HRO.out.1
            have f1 : w3.cell? ⟨bA, oA + i * 4 + 1, none⟩ = some (.int .i64 u.k.bk) := (HL3.out.cell (p := ⟨bA, oA + i * 4 + 1, none⟩) hbA).trans HRO.out.2.1
            have f2 : w3.cell? ⟨bA, oA + i * 4 + 2, none⟩ = some (.int .i64 u.k.rw) := (HL3.out.cell (p := ⟨bA, oA + i * 4 + 2, none⟩) hbA).trans HRO.out.2.2
            have f3 : w3.cell? ⟨bA, oA + i * 4 + 3, none⟩ = some (.slice u.A u.n u.c) := (HL3.out.cell (p := ⟨bA, oA + i * 4 + 3, none⟩) hbA).trans HR3.out
            have hz3 := HLy.out.size
            have HSN := hide (show (rows.take (i + 1)).filter (fitsR cols) = S ++ [u] by rw [HST.out, if_pos (by unfold fitsR; rw [HRV.out]; rfl)])
            go_wp2_with (at_builtin; refine wpList_append_row _ rfl (.tmp 51) (.tmp 56) 23 rfl Z0.heap.size 37 infoK Tryd.underlying23 rfl (by omega) (.slice As k cs) k _ rfl (HO3.out.alloc _) _ (some ⟨w3.heap.size, 0, none⟩) 1 1 (kcs [u]) rfl rfl (row_new w3 #[.int .i64 u.k.id, .int .i64 u.k.bk, .int .i64 u.k.rw, .slice u.A u.n u.c] _ (0, 0)) kcs_one (by simp only [maxLen]; omega) (by omega) (by simp; omega) ?_; intro v' w' hown' hg hat; obtain ⟨A3, c3, rfl, -, -⟩ := own_form hown'; have HO' := hide hown'; have HGR := hide hg; clear hown' hg hat)
            have HL4 := hide (show Le Z0 w' from Below.trans HLy.out (Below.trans ((Below.refl _ _).alloc hz3 _) (below_own HGR.out (Nat.le_refl _) (by simp; omega) (fun g h => own_ge HO3.out h (Nat.le_refl _)))))
            exact ⟨⟨i + 1, k + 1, c3, A3, S ++ [u], rfl, by go_num, by omega, by omega, hide HSN.out.symm, hide (by simp [HSL.out]), hide (by rw [kcs_append]; exact HO'.out), HL4⟩, by simp [intOf]; omega⟩
          · have hr1 : (rv == 0) = false := by simpa using hr0
            have HSN := hide (show (rows.take (i + 1)).filter (fitsR cols) = S by rw [HST.out, if_neg (by unfold fitsR; rw [HRV.out, decide_eq_false hr0]; simp)])
            go_wp2_with fail
            exact ⟨⟨i + 1, k, cs, As, S, rfl, by go_num, by omega, by omega, hide HSN.out.symm, HSL, HO3, HLy⟩, by simp [intOf]; omega⟩
        · obtain rfl : i = K := by omega
          have HOWN := hide (show ∀ x ∈ S, KHas Z Z.heap.size x ∧ x.n = m from fun x hx => by
            rw [HS.out] at hx
            obtain ⟨h1, h2⟩ := List.mem_filter.1 hx
            have h3 := HRK.out x (List.mem_of_mem_take h1)
            have h4 := row_zero (of_decide_eq_true h2)
            rw [HCL.out, h3.1] at h4
            exact ⟨⟨h3.1, by omega, (HLz.out.row h3.2.2.1 (Nat.le_refl _)).more HLz.out.size⟩, h4.symm⟩)
          have HSR := hide (Row.of_own HO.out)
          have hk60 : k ≤ 60 := by omega
          have BXz := hide (BXq.out.below HLr.out BXq.out.lt)
          go_upto_region 8 with fail
          go_cut [40] (fun s wx => s = .bool false ∧ Z = wx)
          case first =>
            by_cases hjg : i < rn
            · have hjI : (i : Int) < rn := by omega
              have hj60 : decide ((i : Int) < 60) = false := decide_eq_false (by omega)
              have hj61 : ¬ (i : Int) < 60 := by omega
              go_wp2_with fail
              go_meet
              exact ⟨rfl, rfl⟩
            · have hjI : decide ((i : Int) < rn) = false := decide_eq_false (by omega)
              have hjI2 : ¬ (i : Int) < rn := by omega
              go_wp2_with fail
              go_meet
              exact ⟨rfl, rfl⟩
          case rest =>
            obtain ⟨rfl, rfl⟩ := hcut
            have HSE := hide (fun (W : World) (h : Le w W) (hz : Le Z W) (NA' : Option Addr) (nn' nc' : Nat) (q : List pr.Nd) (hq : q.length = nn') (hq2 : nn' ≤ 1000) (hqr : Row W W.heap.size NA' (ncs q)) (hqh : ∀ n ∈ q, Has W W.heap.size n) (hqw : ∀ n ∈ q, WfN n) => select_any W CA m cc cols HCL.out (by omega) ((h.row HCR.out (Nat.le_refl _)).more h.size) As k cs S HSL.out hk60 ((hz.row HSR.out (Nat.le_refl _)).more hz.size) (fun x hx => ⟨(HOWN.out x hx).1.on hz (Nat.le_refl _) hz.size, (HOWN.out x hx).2⟩) none 0 0 [] rfl (by omega) Row.none_ NA' nn' nc' q hq (by omega) hqr hqh hqw (HT.out.le h))
            have HNO := hide (fun (W : World) (h : Le w W) (n : pr.Nd) (hn : n ∈ p.take 30) => ((HNH.out n hn).on h (Nat.le_refl _)).more h.size)
            have HSLN := hide (show k = S.length from HSL.out.symm)
            go_wp2_with fail
            obtain ⟨Y1, hY1, hr1, hl1⟩ : ∃ Y, Z.alloc (.cells #[.int .i64 9, .int .i64 0, .bool false, .int .i64 0, .string ⟨#[]⟩, .slice none 0 0, .slice none 0 0] 45) = Y ∧ Row Y Y.heap.size (some ⟨Z.heap.size, 0, none⟩) (ncs [ndTrue]) ∧ Le Z Y := ⟨_, rfl, (row_new Z #[.int .i64 9, .int .i64 0, .bool false, .int .i64 0, .string ⟨#[]⟩, .slice none 0 0, .slice none 0 0] _ (0, 0)).more (by simp), (Below.refl _ _).alloc (Nat.le_refl _) _⟩
            rw [hY1]
            refine (HSE.out Y1 (HLz.out.trans hl1) hl1 (some ⟨Z.heap.size, 0, none⟩) 1 1 [ndTrue] rfl (by omega) hr1 (fun n hn => by rw [List.mem_singleton.1 hn]; exact has_true) (fun n hn => by rw [List.mem_singleton.1 hn]; exact wfn_true)).mono ?_
            rintro e w5 hsel
            obtain ⟨A5, n5, c5, S5, rfl, h1, h2, h3, h4, h5, h6⟩ := sel_all hsel
            rw [may_true, if_pos rfl, filter_all asked_true] at h2
            rw [may_true, filter_all asked_true] at h3
            rw [may_true, if_pos rfl]
            have hnk : n5 = k := by rw [h2, HSLN.out]
            subst hnk
            have H51 := hide h1
            have H53 := hide (h3 rfl)
            have H54 := hide h4
            have H55 := hide h5
            have HZ5 := hide (hl1.trans h6)
            have HL5 := hide (HLz.out.trans HZ5.out)
            clear hY1 hr1 hl1 hsel h1 h2 h3 h4 h5 h6
            go_wp2_with fail
            obtain ⟨Y2, hY2, hz2, hl2, hra, hrb⟩ := lay2 w5 #[.int .i64 0] #[.int .i64 9, .int .i64 0, .bool false, .int .i64 0, .string ⟨#[]⟩, .slice none 0 0, .slice none 0 0, .int .i64 3, .int .i64 0, .bool false, .int .i64 0, .string ⟨#[]⟩, .slice none 0 0, .slice (some ⟨w5.heap.size, 0, none⟩) 1 1] 3 45
            rw [hY2]
            refine (HSE.out Y2 (HL5.out.trans hl2) (HZ5.out.trans hl2) (some ⟨w5.heap.size + 1, 0, none⟩) 2 2 [ndTrue, nx 3 w5.heap.size [0]] rfl (by omega) hrb (fun n hn => by
              simp only [List.mem_cons, List.not_mem_nil, or_false] at hn
              rcases hn with rfl | rfl
              · exact has_true
              · exact has_nx (by simp) hra) (fun n hn => by
              simp only [List.mem_cons, List.not_mem_nil, or_false] at hn
              rcases hn with rfl | rfl
              · exact wfn_true
              · exact wfn_nx _ _ _)).mono ?_
            rintro e w6 hsel
            obtain ⟨A6, n6, c6, S6, rfl, h1, h2, -, -, -, h6⟩ := sel_all hsel
            rw [may_not, if_pos rfl, filter_no (fun x => asked_not x _)] at h2
            rw [may_not, if_pos rfl]
            obtain rfl : n6 = 0 := h2
            have HZ6 := hide ((HZ5.out.trans hl2).trans h6)
            have HL6 := hide (HLz.out.trans HZ6.out)
            have H56 := hide (hl2.trans h6)
            have BX6 := hide (BXz.out.below HZ6.out BXz.out.lt)
            clear hY2 hz2 hl2 hra hrb hsel h1 h6
            have g1 := BX6.out.cell 1 (.slice NA n2 nc) rfl
            go_wp2_with fail
            refine (HSE.out w6 HL6.out HZ6.out NA n2 nc (p.take 30) HNL.out (by omega) ((HL6.out.row HNR.out (Nat.le_refl _)).more HL6.out.size) (HNO.out w6 HL6.out) HNW.out).mono ?_
            rintro e w7 hsel
            obtain ⟨A7, n7, c7, S7, rfl, -, h2, -, -, -, h6⟩ := sel_all hsel
            have HE7 := hide h2
            have HZ7 := hide (HZ6.out.trans h6)
            have H57 := hide (H56.out.trans h6)
            have HL7 := hide (HLz.out.trans HZ7.out)
            have BX7 := hide (BX6.out.below h6 BX6.out.lt)
            obtain ⟨q7, hq7⟩ : ∃ q, pr.mayP cols (p.take 30) = q := ⟨_, rfl⟩
            rw [hq7] at HE7 ⊢
            obtain ⟨r7, hr7⟩ : ∃ r : Int, (if q7 = true then (0 : Int) else 1) = r := ⟨_, rfl⟩
            rw [hr7]
            have HR7 := hide hr7
            have HQ7 := hide hq7
            clear h2 h6 hsel g1 hq7 hr7
            have hwn : (n2 : Int) - 1 < 1000 := by omega
            obtain ⟨TM, hTM⟩ : ∃ x, IntKind.i64.wrap ((n2 : Int) - 1) = x := ⟨_, rfl⟩
            have HTM := hide (show TM = (n2 : Int) - 1 by rw [← hTM]; exact IntWalk.i64_in _ (by omega))
            go_upto_region 15 with fail
            obtain ⟨V, hV⟩ : ∃ V, w7.drew = V := ⟨_, rfl⟩
            have H7V := hide (show Le w7 V by rw [← hV]; exact (Le.refl _).drew)
            have HWV := hide (HL7.out.trans H7V.out)
            have HZV := hide (HZ7.out.trans H7V.out)
            have HLVV := hide (Le.refl V)
            have HNV := hide (fun (W : World) (h : Le V W) => ((HWV.out.trans h).row HNR.out (Nat.le_refl _)))
            have x1 : ∀ W, Le V W → W.cell? ⟨w.heap.size, 1, none⟩ = some (.slice NA n2 nc) := (BX7.out.below H7V.out BX7.out.lt).later 1 _ rfl
            have HV := hide hV
            clear hV
            go_cut [16, 17] (fun s t wx => ∃ (b9 : Nat) (A9 : Option Addr) (n9 c9 : Nat) (q9 : Bool) (r9 : Int), s = .slice A9 n9 c9 ∧ t = .int .i64 r9 ∧ Hid ((if q9 = true then (0 : Int) else 1) = r9) ∧ Hid (pr.mayP cols (p.take 30 ++ [nx 3 b9 [TM]]) = q9) ∧ Hid (n9 = (if q9 then (S.filter (askedR (p.take 30 ++ [nx 3 b9 [TM]]))).length else 0)) ∧ Hid (Le V wx))
            case first =>
              refine region_at (Le V) 19 (by kernel_rfl) (by rw [HV.out]; exact Le.refl _) ?_
              rw [HV.out]
              refine at_seg [(0, 1), (1, 1), (3, 1), (4, 0), (6, 1), (7, 0), (8, 1), (9, 1)] 12 (by rfl) (by kernel_rfl) ?_
              simp only [opsPiG, List.filterMap_cons, List.filterMap_nil, List.getElem?_toArray, List.getElem?_cons_zero, List.getElem?_cons_succ, Option.map_some]
              repeat (first | (refine pig_any (v := _) rfl (fun W' => by go_simp <;> exact rfl) ?_; simp only [Act.put, List.setIfInBounds_toArray, List.set_cons_zero, List.set_cons_succ]) | (refine pig_take (v := _) rfl (fun W' hW' => by go_simp <;> exact rfl) ?_; simp only [Act.put, List.setIfInBounds_toArray, List.set_cons_zero, List.set_cons_succ]))
              refine pig_done ?_
              clear x1
              show At _ _ _ (Le V) 19 12 _ _ V
              refine at_two (i := 2) (j := 10) (fuel := 11) (by rfl) (by rfl) (by kernel_rfl) ?_ ?_
              · go_wp2_with fail
                obtain ⟨U1, hW, hZ, hL⟩ : ∃ X, V.alloc (.cells #[] 45) = X ∧ X.ownsRow V.heap.size 45 7 (.slice (some ⟨V.heap.size, 0, none⟩) 0 0) 0 [] ∧ Le V X := ⟨_, rfl, own_zero2 V _ HLVV.out.size _ _, (Below.refl _ _).alloc (Nat.le_refl _) _⟩
                rw [hW]
                have HO1 := hide hZ
                have HLx1 := hide (HLVV.out.trans hL)
                clear hW hZ hL
                refine ⟨HLx1.out, ?_⟩
                refine at_two (i := 5) (j := 10) (fuel := 10) (by rfl) (by rfl) (by kernel_rfl) ?_ ?_
                · show wpList _ _ _ ((Oper.mk (some 90) _ _ _ _ _) :: _) _ _
                  go_wp2_with (at_builtin; refine wpList_append_row _ rfl (.tmp 87) (.tmp 89) 25 rfl V.heap.size 45 infoP Tryd.underlying25 rfl (by omega) (.slice (some ⟨V.heap.size, 0, none⟩) 0 0) 0 [] rfl HO1.out _ NA n2 nc (ncs (p.take 30)) rfl (by rw [ncs_len, HNL.out]) (HNV.out _ HLx1.out) (ncs_one _) (by simp only [maxLen]; omega) (by omega) HLx1.out.size ?_; intro v' U2 hown' hg hat; rw [Nat.zero_add, List.nil_append] at hown'; obtain ⟨A2, e2, rfl, -, -⟩ := own_form hown')
                  have HLx2 := hide (show Le V U2 from Below.trans HLx1.out (below_own hg (Nat.le_refl _) HLx1.out.size (fun g hg3 => own_ge HO1.out hg3 (Nat.le_refl _))))
                  have HO2 := hide hown'
                  clear hown' hg hat
                  refine ⟨HLx2.out, ?_⟩
                  refine at_seg [(10, 2), (11, 1), (12, 2), (13, 2), (14, 2), (15, 1), (16, 1), (17, 1), (18, 1), (19, 3)] 0 (by rfl) (by kernel_rfl) ?_
                  simp only [opsPiG, List.filterMap_cons, List.filterMap_nil, List.getElem?_toArray, List.getElem?_cons_zero, List.getElem?_cons_succ, Option.map_some]
                  refine pig_run ?_
                  go_wp2_with fail
                  obtain ⟨U3, hW, hR, hL, hz⟩ : ∃ X, U2.alloc (.cells #[.int .i64 TM] 3) = X ∧ Row X X.heap.size (some ⟨U2.heap.size, 0, none⟩) [Value.int .i64 TM] ∧ Le U2 X ∧ X.heap.size = U2.heap.size + 1 := ⟨_, rfl, (row_new U2 #[.int .i64 TM] _ (0, 0)).more (by simp), (Below.refl _ _).alloc (Nat.le_refl _) _, by simp⟩
                  rw [hW]
                  have HRLx3 := hide hR
                  have HTLx3 := hide (show U2.heap.size < U3.heap.size by omega)
                  have HNLx3 := hide (show ∀ g, Value.ownBlock (.slice A2 n2 e2) = some g → g ≠ U2.heap.size from fun g hg => by have := (HO2.out.lt g hg).2; omega)
                  have HO3 := hide (own_below HO2.out hL)
                  have HLx3 := hide (HLx2.out.trans hL)
                  clear hW hR hL hz
                  refine ⟨HLx3.out, ?_⟩
                  refine pig_any (v := _) rfl (fun W' => by go_simp <;> exact rfl) ?_; simp only [Act.put, List.setIfInBounds_toArray, List.set_cons_zero, List.set_cons_succ]
                  refine pig_run ?_
                  go_wp2_with fail
                  obtain ⟨U4, hW, hR, hL, hz⟩ : ∃ X, U3.alloc (.cells #[.int .i64 3, .int .i64 0, .bool false, .int .i64 0, .string ⟨#[]⟩, .slice none 0 0, .slice (some ⟨U2.heap.size, 0, none⟩) 1 1] 45) = X ∧ Row X X.heap.size (some ⟨U3.heap.size, 0, none⟩) (ncs [nx 3 (U2.heap.size) [TM]]) ∧ Le U3 X ∧ X.heap.size = U3.heap.size + 1 := ⟨_, rfl, (row_new U3 #[.int .i64 3, .int .i64 0, .bool false, .int .i64 0, .string ⟨#[]⟩, .slice none 0 0, .slice (some ⟨U2.heap.size, 0, none⟩) 1 1] _ (0, 0)).more (by simp), (Below.refl _ _).alloc (Nat.le_refl _) _, by simp⟩
                  rw [hW]
                  have HRLx4 := hide ((hL.row HRLx3.out (Nat.le_refl _)).more hL.size)
                  have HTLx4 := hide (show U2.heap.size < U4.heap.size from Nat.lt_of_lt_of_le HTLx3.out hL.size)
                  have HRNx4 := hide hR
                  have HTNx4 := hide (show U3.heap.size < U4.heap.size by omega)
                  have HNNx4 := hide (show ∀ g, Value.ownBlock (.slice A2 n2 e2) = some g → g ≠ U3.heap.size from fun g hg => by have := (HO3.out.lt g hg).2; omega)
                  have HO4 := hide (own_below HO3.out hL)
                  have HLx4 := hide (HLx3.out.trans hL)
                  clear hW hR hL hz
                  refine ⟨HLx4.out, ?_⟩
                  refine pig_run ?_
                  go_wp2_with (at_builtin; refine wpList_append_row _ rfl (.tmp 90) (.tmp 97) 25 rfl V.heap.size 45 infoP Tryd.underlying25 rfl (by omega) (.slice A2 n2 e2) n2 (ncs (p.take 30)) rfl HO4.out _ (some ⟨U3.heap.size, 0, none⟩) 1 1 (ncs [nx 3 (U2.heap.size) [TM]]) rfl rfl HRNx4.out (ncs_one _) (by simp only [maxLen]; omega) (by omega) HLx4.out.size ?_; intro v' U5 hown' hg hat; rw [← ncs_append] at hown'; obtain ⟨A5, e5, rfl, -, -⟩ := own_form hown')
                  have HRLx5 := hide ((HRLx4.out.keptIn hg (fun e => HNLx3.out _ e.symm rfl)).more hg.size)
                  have HTLx5 := hide (show U2.heap.size < U5.heap.size from Nat.lt_of_lt_of_le HTLx4.out hg.size)
                  have HLx5 := hide (show Le V U5 from Below.trans HLx4.out (below_own hg (Nat.le_refl _) HLx4.out.size (fun g hg3 => own_ge HO4.out hg3 (Nat.le_refl _))))
                  have HO5 := hide hown'
                  clear hown' hg hat
                  refine ⟨HLx5.out, ?_⟩
                  refine pig_run ?_
                  go_wp2_with fail
                  refine (HSE.out U5 (HWV.out.trans HLx5.out) (HZV.out.trans HLx5.out) A5 (n2 + 1) e5 (p.take 30 ++ [nx 3 (U2.heap.size) [TM]]) (by rw [List.length_append, HNL.out]; rfl) (by omega) (Row.of_own HO5.out) (fun n hn => by
                    rcases List.mem_append.1 hn with hn | hn
                    · exact HNO.out U5 (HWV.out.trans HLx5.out) n hn
                    · rw [List.mem_singleton.1 hn]
                      exact has_nx (by simp) HRLx5.out) (fun n hn => by
                    rcases List.mem_append.1 hn with hn | hn
                    · exact HNW.out n hn
                    · rw [List.mem_singleton.1 hn]
                      exact wfn_nx _ _ _)).mono ?_
                  rintro e w9 hsel
                  obtain ⟨A9, n9, c9, S9, rfl, -, h2, -, -, -, h6⟩ := sel_all hsel
                  have HE9 := hide h2
                  have HL9 := hide (HLx5.out.trans h6)
                  clear h2 h6 hsel
                  obtain ⟨q9, hq9⟩ : ∃ q, pr.mayP cols (p.take 30 ++ [nx 3 (U2.heap.size) [TM]]) = q := ⟨_, rfl⟩
                  rw [hq9] at HE9 ⊢
                  obtain ⟨r9, hr9⟩ : ∃ r : Int, (if q9 = true then (0 : Int) else 1) = r := ⟨_, rfl⟩
                  rw [hr9]
                  have HR9 := hide hr9
                  have HQ9 := hide hq9
                  clear hq9 hr9
                  go_wp2_with fail
                  refine ⟨HL9.out, ?_⟩
                  repeat (first | (refine pig_any (v := _) rfl (fun W' => by go_simp <;> exact rfl) ?_; simp only [Act.put, List.setIfInBounds_toArray, List.set_cons_zero, List.set_cons_succ]) | (refine pig_take (v := _) rfl (fun W' hW' => by go_simp <;> exact rfl) ?_; simp only [Act.put, List.setIfInBounds_toArray, List.set_cons_zero, List.set_cons_succ]))
                  refine pig_late ?_
                  go_wp2_with fail
                  refine pig_done ?_
                  refine at_done (by kernel_rfl) ?_ 0
                  go_wp2_with fail
                  go_meet
                  exact ⟨U2.heap.size, A9, n9, c9, q9, r9, rfl, rfl, HR9, HQ9, HE9, HL9⟩
                · go_wp2_with fail
                  obtain ⟨U2, hW, hR, hL, hz⟩ : ∃ X, U1.alloc (.cells #[.int .i64 TM] 3) = X ∧ Row X X.heap.size (some ⟨U1.heap.size, 0, none⟩) [Value.int .i64 TM] ∧ Le U1 X ∧ X.heap.size = U1.heap.size + 1 := ⟨_, rfl, (row_new U1 #[.int .i64 TM] _ (0, 0)).more (by simp), (Below.refl _ _).alloc (Nat.le_refl _) _, by simp⟩
                  rw [hW]
                  have HRLx2 := hide hR
                  have HTLx2 := hide (show U1.heap.size < U2.heap.size by omega)
                  have HNLx2 := hide (show ∀ g, Value.ownBlock (.slice (some ⟨V.heap.size, 0, none⟩) 0 0) = some g → g ≠ U1.heap.size from fun g hg => by have := (HO1.out.lt g hg).2; omega)
                  have HO2 := hide (own_below HO1.out hL)
                  have HLx2 := hide (HLx1.out.trans hL)
                  clear hW hR hL hz
                  refine ⟨HLx2.out, ?_⟩
                  refine at_seg [(11, 1)] 9 (by rfl) (by kernel_rfl) ?_
                  simp only [opsPiG, List.filterMap_cons, List.filterMap_nil, List.getElem?_toArray, List.getElem?_cons_zero, List.getElem?_cons_succ, Option.map_some]
                  refine pig_any (v := _) rfl (fun W' => by go_simp <;> exact rfl) ?_; simp only [Act.put, List.setIfInBounds_toArray, List.set_cons_zero, List.set_cons_succ]
                  refine pig_done ?_
                  show At _ _ _ (Le V) 19 9 _ _ U2
                  refine at_two (i := 5) (j := 12) (fuel := 8) (by rfl) (by rfl) (by kernel_rfl) ?_ ?_
                  · show wpList _ _ _ ((Oper.mk (some 90) _ _ _ _ _) :: _) _ _
                    go_wp2_with (at_builtin; refine wpList_append_row _ rfl (.tmp 87) (.tmp 89) 25 rfl V.heap.size 45 infoP Tryd.underlying25 rfl (by omega) (.slice (some ⟨V.heap.size, 0, none⟩) 0 0) 0 [] rfl HO2.out _ NA n2 nc (ncs (p.take 30)) rfl (by rw [ncs_len, HNL.out]) (HNV.out _ HLx2.out) (ncs_one _) (by simp only [maxLen]; omega) (by omega) HLx2.out.size ?_; intro v' U3 hown' hg hat; rw [Nat.zero_add, List.nil_append] at hown'; obtain ⟨A3, e3, rfl, -, -⟩ := own_form hown')
                    have HRLx3 := hide ((HRLx2.out.keptIn hg (fun e => HNLx2.out _ e.symm rfl)).more hg.size)
                    have HTLx3 := hide (show U1.heap.size < U3.heap.size from Nat.lt_of_lt_of_le HTLx2.out hg.size)
                    have HNLx3 := hide (show ∀ g, Value.ownBlock (.slice A3 n2 e3) = some g → g ≠ U1.heap.size from fun g hg2 => by
                      rcases hat with h | h
                      · exact HNLx2.out g (h.symm.trans hg2)
                      · have h1 : U2.heap.size = g := Option.some.inj (h.symm.trans hg2)
                        have h2 := HTLx2.out
                        omega)
                    have HLx3 := hide (show Le V U3 from Below.trans HLx2.out (below_own hg (Nat.le_refl _) HLx2.out.size (fun g hg3 => own_ge HO2.out hg3 (Nat.le_refl _))))
                    have HO3 := hide hown'
                    clear hown' hg hat
                    refine ⟨HLx3.out, ?_⟩
                    refine at_seg [(12, 2), (13, 2), (14, 2), (15, 1), (16, 1), (17, 1), (18, 1), (19, 3)] 0 (by rfl) (by kernel_rfl) ?_
                    simp only [opsPiG, List.filterMap_cons, List.filterMap_nil, List.getElem?_toArray, List.getElem?_cons_zero, List.getElem?_cons_succ, Option.map_some]
                    refine pig_run ?_
                    go_wp2_with fail
                    obtain ⟨U4, hW, hR, hL, hz⟩ : ∃ X, U3.alloc (.cells #[.int .i64 3, .int .i64 0, .bool false, .int .i64 0, .string ⟨#[]⟩, .slice none 0 0, .slice (some ⟨U1.heap.size, 0, none⟩) 1 1] 45) = X ∧ Row X X.heap.size (some ⟨U3.heap.size, 0, none⟩) (ncs [nx 3 (U1.heap.size) [TM]]) ∧ Le U3 X ∧ X.heap.size = U3.heap.size + 1 := ⟨_, rfl, (row_new U3 #[.int .i64 3, .int .i64 0, .bool false, .int .i64 0, .string ⟨#[]⟩, .slice none 0 0, .slice (some ⟨U1.heap.size, 0, none⟩) 1 1] _ (0, 0)).more (by simp), (Below.refl _ _).alloc (Nat.le_refl _) _, by simp⟩
                    rw [hW]
                    have HRLx4 := hide ((hL.row HRLx3.out (Nat.le_refl _)).more hL.size)
                    have HTLx4 := hide (show U1.heap.size < U4.heap.size from Nat.lt_of_lt_of_le HTLx3.out hL.size)
                    have HRNx4 := hide hR
                    have HTNx4 := hide (show U3.heap.size < U4.heap.size by omega)
                    have HNNx4 := hide (show ∀ g, Value.ownBlock (.slice A3 n2 e3) = some g → g ≠ U3.heap.size from fun g hg => by have := (HO3.out.lt g hg).2; omega)
                    have HO4 := hide (own_below HO3.out hL)
                    have HLx4 := hide (HLx3.out.trans hL)
                    clear hW hR hL hz
                    refine ⟨HLx4.out, ?_⟩
                    refine pig_run ?_
                    go_wp2_with (at_builtin; refine wpList_append_row _ rfl (.tmp 90) (.tmp 97) 25 rfl V.heap.size 45 infoP Tryd.underlying25 rfl (by omega) (.slice A3 n2 e3) n2 (ncs (p.take 30)) rfl HO4.out _ (some ⟨U3.heap.size, 0, none⟩) 1 1 (ncs [nx 3 (U1.heap.size) [TM]]) rfl rfl HRNx4.out (ncs_one _) (by simp only [maxLen]; omega) (by omega) HLx4.out.size ?_; intro v' U5 hown' hg hat; rw [← ncs_append] at hown'; obtain ⟨A5, e5, rfl, -, -⟩ := own_form hown')
                    have HRLx5 := hide ((HRLx4.out.keptIn hg (fun e => HNLx3.out _ e.symm rfl)).more hg.size)
                    have HTLx5 := hide (show U1.heap.size < U5.heap.size from Nat.lt_of_lt_of_le HTLx4.out hg.size)
                    have HLx5 := hide (show Le V U5 from Below.trans HLx4.out (below_own hg (Nat.le_refl _) HLx4.out.size (fun g hg3 => own_ge HO4.out hg3 (Nat.le_refl _))))
                    have HO5 := hide hown'
                    clear hown' hg hat
                    refine ⟨HLx5.out, ?_⟩
                    refine pig_run ?_
                    go_wp2_with fail
                    refine (HSE.out U5 (HWV.out.trans HLx5.out) (HZV.out.trans HLx5.out) A5 (n2 + 1) e5 (p.take 30 ++ [nx 3 (U1.heap.size) [TM]]) (by rw [List.length_append, HNL.out]; rfl) (by omega) (Row.of_own HO5.out) (fun n hn => by
                      rcases List.mem_append.1 hn with hn | hn
                      · exact HNO.out U5 (HWV.out.trans HLx5.out) n hn
                      · rw [List.mem_singleton.1 hn]
                        exact has_nx (by simp) HRLx5.out) (fun n hn => by
                      rcases List.mem_append.1 hn with hn | hn
                      · exact HNW.out n hn
                      · rw [List.mem_singleton.1 hn]
                        exact wfn_nx _ _ _)).mono ?_
                    rintro e w9 hsel
                    obtain ⟨A9, n9, c9, S9, rfl, -, h2, -, -, -, h6⟩ := sel_all hsel
                    have HE9 := hide h2
                    have HL9 := hide (HLx5.out.trans h6)
                    clear h2 h6 hsel
                    obtain ⟨q9, hq9⟩ : ∃ q, pr.mayP cols (p.take 30 ++ [nx 3 (U1.heap.size) [TM]]) = q := ⟨_, rfl⟩
                    rw [hq9] at HE9 ⊢
                    obtain ⟨r9, hr9⟩ : ∃ r : Int, (if q9 = true then (0 : Int) else 1) = r := ⟨_, rfl⟩
                    rw [hr9]
                    have HR9 := hide hr9
                    have HQ9 := hide hq9
                    clear hq9 hr9
                    go_wp2_with fail
                    refine ⟨HL9.out, ?_⟩
                    repeat (first | (refine pig_any (v := _) rfl (fun W' => by go_simp <;> exact rfl) ?_; simp only [Act.put, List.setIfInBounds_toArray, List.set_cons_zero, List.set_cons_succ]) | (refine pig_take (v := _) rfl (fun W' hW' => by go_simp <;> exact rfl) ?_; simp only [Act.put, List.setIfInBounds_toArray, List.set_cons_zero, List.set_cons_succ]))
                    refine pig_late ?_
                    go_wp2_with fail
                    refine pig_done ?_
                    refine at_done (by kernel_rfl) ?_ 0
                    go_wp2_with fail
                    go_meet
                    exact ⟨U1.heap.size, A9, n9, c9, q9, r9, rfl, rfl, HR9, HQ9, HE9, HL9⟩
                  · go_wp2_with fail
                    obtain ⟨U3, hW, hR, hL, hz⟩ : ∃ X, U2.alloc (.cells #[.int .i64 3, .int .i64 0, .bool false, .int .i64 0, .string ⟨#[]⟩, .slice none 0 0, .slice (some ⟨U1.heap.size, 0, none⟩) 1 1] 45) = X ∧ Row X X.heap.size (some ⟨U2.heap.size, 0, none⟩) (ncs [nx 3 (U1.heap.size) [TM]]) ∧ Le U2 X ∧ X.heap.size = U2.heap.size + 1 := ⟨_, rfl, (row_new U2 #[.int .i64 3, .int .i64 0, .bool false, .int .i64 0, .string ⟨#[]⟩, .slice none 0 0, .slice (some ⟨U1.heap.size, 0, none⟩) 1 1] _ (0, 0)).more (by simp), (Below.refl _ _).alloc (Nat.le_refl _) _, by simp⟩
                    rw [hW]
                    have HRLx3 := hide ((hL.row HRLx2.out (Nat.le_refl _)).more hL.size)
                    have HTLx3 := hide (show U1.heap.size < U3.heap.size from Nat.lt_of_lt_of_le HTLx2.out hL.size)
                    have HRNx3 := hide hR
                    have HTNx3 := hide (show U2.heap.size < U3.heap.size by omega)
                    have HNNx3 := hide (show ∀ g, Value.ownBlock (.slice (some ⟨V.heap.size, 0, none⟩) 0 0) = some g → g ≠ U2.heap.size from fun g hg => by have := (HO2.out.lt g hg).2; omega)
                    have HO3 := hide (own_below HO2.out hL)
                    have HLx3 := hide (HLx2.out.trans hL)
                    clear hW hR hL hz
                    refine ⟨HLx3.out, ?_⟩
                    refine at_seg [(5, 2), (13, 2), (14, 2), (15, 1), (16, 1), (17, 1), (18, 1), (19, 3)] 0 (by rfl) (by kernel_rfl) ?_
                    simp only [opsPiG, List.filterMap_cons, List.filterMap_nil, List.getElem?_toArray, List.getElem?_cons_zero, List.getElem?_cons_succ, Option.map_some]
                    refine pig_run ?_
                    go_wp2_with (at_builtin; refine wpList_append_row _ rfl (.tmp 87) (.tmp 89) 25 rfl V.heap.size 45 infoP Tryd.underlying25 rfl (by omega) (.slice (some ⟨V.heap.size, 0, none⟩) 0 0) 0 [] rfl HO3.out _ NA n2 nc (ncs (p.take 30)) rfl (by rw [ncs_len, HNL.out]) (HNV.out _ HLx3.out) (ncs_one _) (by simp only [maxLen]; omega) (by omega) HLx3.out.size ?_; intro v' U4 hown' hg hat; rw [Nat.zero_add, List.nil_append] at hown'; obtain ⟨A4, e4, rfl, -, -⟩ := own_form hown')
                    have HRLx4 := hide ((HRLx3.out.keptIn hg (fun e => HNLx2.out _ e.symm rfl)).more hg.size)
                    have HTLx4 := hide (show U1.heap.size < U4.heap.size from Nat.lt_of_lt_of_le HTLx3.out hg.size)
                    have HRNx4 := hide ((HRNx3.out.keptIn hg (fun e => HNNx3.out _ e.symm rfl)).more hg.size)
                    have HTNx4 := hide (show U2.heap.size < U4.heap.size from Nat.lt_of_lt_of_le HTNx3.out hg.size)
                    have HNLx4 := hide (show ∀ g, Value.ownBlock (.slice A4 n2 e4) = some g → g ≠ U1.heap.size from fun g hg2 => by
                      rcases hat with h | h
                      · exact HNLx2.out g (h.symm.trans hg2)
                      · have h1 : U3.heap.size = g := Option.some.inj (h.symm.trans hg2)
                        have h2 := HTLx3.out
                        omega)
                    have HNNx4 := hide (show ∀ g, Value.ownBlock (.slice A4 n2 e4) = some g → g ≠ U2.heap.size from fun g hg2 => by
                      rcases hat with h | h
                      · exact HNNx3.out g (h.symm.trans hg2)
                      · have h1 : U3.heap.size = g := Option.some.inj (h.symm.trans hg2)
                        have h2 := HTNx3.out
                        omega)
                    have HLx4 := hide (show Le V U4 from Below.trans HLx3.out (below_own hg (Nat.le_refl _) HLx3.out.size (fun g hg3 => own_ge HO3.out hg3 (Nat.le_refl _))))
                    have HO4 := hide hown'
                    clear hown' hg hat
                    refine ⟨HLx4.out, ?_⟩
                    refine pig_run ?_
                    go_wp2_with (at_builtin; refine wpList_append_row _ rfl (.tmp 90) (.tmp 97) 25 rfl V.heap.size 45 infoP Tryd.underlying25 rfl (by omega) (.slice A4 n2 e4) n2 (ncs (p.take 30)) rfl HO4.out _ (some ⟨U2.heap.size, 0, none⟩) 1 1 (ncs [nx 3 (U1.heap.size) [TM]]) rfl rfl HRNx4.out (ncs_one _) (by simp only [maxLen]; omega) (by omega) HLx4.out.size ?_; intro v' U5 hown' hg hat; rw [← ncs_append] at hown'; obtain ⟨A5, e5, rfl, -, -⟩ := own_form hown')
                    have HRLx5 := hide ((HRLx4.out.keptIn hg (fun e => HNLx4.out _ e.symm rfl)).more hg.size)
                    have HTLx5 := hide (show U1.heap.size < U5.heap.size from Nat.lt_of_lt_of_le HTLx4.out hg.size)
                    have HLx5 := hide (show Le V U5 from Below.trans HLx4.out (below_own hg (Nat.le_refl _) HLx4.out.size (fun g hg3 => own_ge HO4.out hg3 (Nat.le_refl _))))
                    have HO5 := hide hown'
                    clear hown' hg hat
                    refine ⟨HLx5.out, ?_⟩
                    refine pig_run ?_
                    go_wp2_with fail
                    refine (HSE.out U5 (HWV.out.trans HLx5.out) (HZV.out.trans HLx5.out) A5 (n2 + 1) e5 (p.take 30 ++ [nx 3 (U1.heap.size) [TM]]) (by rw [List.length_append, HNL.out]; rfl) (by omega) (Row.of_own HO5.out) (fun n hn => by
                      rcases List.mem_append.1 hn with hn | hn
                      · exact HNO.out U5 (HWV.out.trans HLx5.out) n hn
                      · rw [List.mem_singleton.1 hn]
                        exact has_nx (by simp) HRLx5.out) (fun n hn => by
                      rcases List.mem_append.1 hn with hn | hn
                      · exact HNW.out n hn
                      · rw [List.mem_singleton.1 hn]
                        exact wfn_nx _ _ _)).mono ?_
                    rintro e w9 hsel
                    obtain ⟨A9, n9, c9, S9, rfl, -, h2, -, -, -, h6⟩ := sel_all hsel
                    have HE9 := hide h2
                    have HL9 := hide (HLx5.out.trans h6)
                    clear h2 h6 hsel
                    obtain ⟨q9, hq9⟩ : ∃ q, pr.mayP cols (p.take 30 ++ [nx 3 (U1.heap.size) [TM]]) = q := ⟨_, rfl⟩
                    rw [hq9] at HE9 ⊢
                    obtain ⟨r9, hr9⟩ : ∃ r : Int, (if q9 = true then (0 : Int) else 1) = r := ⟨_, rfl⟩
                    rw [hr9]
                    have HR9 := hide hr9
                    have HQ9 := hide hq9
                    clear hq9 hr9
                    go_wp2_with fail
                    refine ⟨HL9.out, ?_⟩
                    repeat (first | (refine pig_any (v := _) rfl (fun W' => by go_simp <;> exact rfl) ?_; simp only [Act.put, List.setIfInBounds_toArray, List.set_cons_zero, List.set_cons_succ]) | (refine pig_take (v := _) rfl (fun W' hW' => by go_simp <;> exact rfl) ?_; simp only [Act.put, List.setIfInBounds_toArray, List.set_cons_zero, List.set_cons_succ]))
                    refine pig_late ?_
                    go_wp2_with fail
                    refine pig_done ?_
                    refine at_done (by kernel_rfl) ?_ 0
                    go_wp2_with fail
                    go_meet
                    exact ⟨U1.heap.size, A9, n9, c9, q9, r9, rfl, rfl, HR9, HQ9, HE9, HL9⟩
              · go_wp2_with fail
                obtain ⟨U1, hW, hR, hL, hz⟩ : ∃ X, V.alloc (.cells #[.int .i64 TM] 3) = X ∧ Row X X.heap.size (some ⟨V.heap.size, 0, none⟩) [Value.int .i64 TM] ∧ Le V X ∧ X.heap.size = V.heap.size + 1 := ⟨_, rfl, (row_new V #[.int .i64 TM] _ (0, 0)).more (by simp), (Below.refl _ _).alloc (Nat.le_refl _) _, by simp⟩
                rw [hW]
                have HRLx1 := hide hR
                have HTLx1 := hide (show V.heap.size < U1.heap.size by omega)
                have HLx1 := hide (HLVV.out.trans hL)
                clear hW hR hL hz
                refine ⟨HLx1.out, ?_⟩
                refine at_seg [(11, 1)] 10 (by rfl) (by kernel_rfl) ?_
                simp only [opsPiG, List.filterMap_cons, List.filterMap_nil, List.getElem?_toArray, List.getElem?_cons_zero, List.getElem?_cons_succ, Option.map_some]
                refine pig_any (v := _) rfl (fun W' => by go_simp <;> exact rfl) ?_; simp only [Act.put, List.setIfInBounds_toArray, List.set_cons_zero, List.set_cons_succ]
                refine pig_done ?_
                show At _ _ _ (Le V) 19 10 _ _ U1
                refine at_two (i := 2) (j := 12) (fuel := 9) (by rfl) (by rfl) (by kernel_rfl) ?_ ?_
                · go_wp2_with fail
                  obtain ⟨U2, hW, hZ, hL⟩ : ∃ X, U1.alloc (.cells #[] 45) = X ∧ X.ownsRow V.heap.size 45 7 (.slice (some ⟨U1.heap.size, 0, none⟩) 0 0) 0 [] ∧ Le U1 X := ⟨_, rfl, own_zero2 U1 _ HLx1.out.size _ _, (Below.refl _ _).alloc (Nat.le_refl _) _⟩
                  rw [hW]
                  have HRLx2 := hide ((hL.row HRLx1.out (Nat.le_refl _)).more hL.size)
                  have HTLx2 := hide (show V.heap.size < U2.heap.size from Nat.lt_of_lt_of_le HTLx1.out hL.size)
                  have HNLx2 := hide (show ∀ g, Value.ownBlock (.slice (some ⟨U1.heap.size, 0, none⟩) 0 0) = some g → g ≠ V.heap.size from fun g hg => by have h1 : U1.heap.size = g := Option.some.inj hg; have h2 := HTLx1.out; omega)
                  have HO2 := hide hZ
                  have HLx2 := hide (HLx1.out.trans hL)
                  clear hW hZ hL
                  refine ⟨HLx2.out, ?_⟩
                  refine at_two (i := 5) (j := 12) (fuel := 8) (by rfl) (by rfl) (by kernel_rfl) ?_ ?_
                  · show wpList _ _ _ ((Oper.mk (some 90) _ _ _ _ _) :: _) _ _
                    go_wp2_with (at_builtin; refine wpList_append_row _ rfl (.tmp 87) (.tmp 89) 25 rfl V.heap.size 45 infoP Tryd.underlying25 rfl (by omega) (.slice (some ⟨U1.heap.size, 0, none⟩) 0 0) 0 [] rfl HO2.out _ NA n2 nc (ncs (p.take 30)) rfl (by rw [ncs_len, HNL.out]) (HNV.out _ HLx2.out) (ncs_one _) (by simp only [maxLen]; omega) (by omega) HLx2.out.size ?_; intro v' U3 hown' hg hat; rw [Nat.zero_add, List.nil_append] at hown'; obtain ⟨A3, e3, rfl, -, -⟩ := own_form hown')
                    have HRLx3 := hide ((HRLx2.out.keptIn hg (fun e => HNLx2.out _ e.symm rfl)).more hg.size)
                    have HTLx3 := hide (show V.heap.size < U3.heap.size from Nat.lt_of_lt_of_le HTLx2.out hg.size)
                    have HNLx3 := hide (show ∀ g, Value.ownBlock (.slice A3 n2 e3) = some g → g ≠ V.heap.size from fun g hg2 => by
                      rcases hat with h | h
                      · exact HNLx2.out g (h.symm.trans hg2)
                      · have h1 : U2.heap.size = g := Option.some.inj (h.symm.trans hg2)
                        have h2 := HTLx2.out
                        omega)
                    have HLx3 := hide (show Le V U3 from Below.trans HLx2.out (below_own hg (Nat.le_refl _) HLx2.out.size (fun g hg3 => own_ge HO2.out hg3 (Nat.le_refl _))))
                    have HO3 := hide hown'
                    clear hown' hg hat
                    refine ⟨HLx3.out, ?_⟩
                    refine at_seg [(12, 2), (13, 2), (14, 2), (15, 1), (16, 1), (17, 1), (18, 1), (19, 3)] 0 (by rfl) (by kernel_rfl) ?_
                    simp only [opsPiG, List.filterMap_cons, List.filterMap_nil, List.getElem?_toArray, List.getElem?_cons_zero, List.getElem?_cons_succ, Option.map_some]
                    refine pig_run ?_
                    go_wp2_with fail
                    obtain ⟨U4, hW, hR, hL, hz⟩ : ∃ X, U3.alloc (.cells #[.int .i64 3, .int .i64 0, .bool false, .int .i64 0, .string ⟨#[]⟩, .slice none 0 0, .slice (some ⟨V.heap.size, 0, none⟩) 1 1] 45) = X ∧ Row X X.heap.size (some ⟨U3.heap.size, 0, none⟩) (ncs [nx 3 (V.heap.size) [TM]]) ∧ Le U3 X ∧ X.heap.size = U3.heap.size + 1 := ⟨_, rfl, (row_new U3 #[.int .i64 3, .int .i64 0, .bool false, .int .i64 0, .string ⟨#[]⟩, .slice none 0 0, .slice (some ⟨V.heap.size, 0, none⟩) 1 1] _ (0, 0)).more (by simp), (Below.refl _ _).alloc (Nat.le_refl _) _, by simp⟩
                    rw [hW]
                    have HRLx4 := hide ((hL.row HRLx3.out (Nat.le_refl _)).more hL.size)
                    have HTLx4 := hide (show V.heap.size < U4.heap.size from Nat.lt_of_lt_of_le HTLx3.out hL.size)
                    have HRNx4 := hide hR
                    have HTNx4 := hide (show U3.heap.size < U4.heap.size by omega)
                    have HNNx4 := hide (show ∀ g, Value.ownBlock (.slice A3 n2 e3) = some g → g ≠ U3.heap.size from fun g hg => by have := (HO3.out.lt g hg).2; omega)
                    have HO4 := hide (own_below HO3.out hL)
                    have HLx4 := hide (HLx3.out.trans hL)
                    clear hW hR hL hz
                    refine ⟨HLx4.out, ?_⟩
                    refine pig_run ?_
                    go_wp2_with (at_builtin; refine wpList_append_row _ rfl (.tmp 90) (.tmp 97) 25 rfl V.heap.size 45 infoP Tryd.underlying25 rfl (by omega) (.slice A3 n2 e3) n2 (ncs (p.take 30)) rfl HO4.out _ (some ⟨U3.heap.size, 0, none⟩) 1 1 (ncs [nx 3 (V.heap.size) [TM]]) rfl rfl HRNx4.out (ncs_one _) (by simp only [maxLen]; omega) (by omega) HLx4.out.size ?_; intro v' U5 hown' hg hat; rw [← ncs_append] at hown'; obtain ⟨A5, e5, rfl, -, -⟩ := own_form hown')
                    have HRLx5 := hide ((HRLx4.out.keptIn hg (fun e => HNLx3.out _ e.symm rfl)).more hg.size)
                    have HTLx5 := hide (show V.heap.size < U5.heap.size from Nat.lt_of_lt_of_le HTLx4.out hg.size)
                    have HLx5 := hide (show Le V U5 from Below.trans HLx4.out (below_own hg (Nat.le_refl _) HLx4.out.size (fun g hg3 => own_ge HO4.out hg3 (Nat.le_refl _))))
                    have HO5 := hide hown'
                    clear hown' hg hat
                    refine ⟨HLx5.out, ?_⟩
                    refine pig_run ?_
                    go_wp2_with fail
                    refine (HSE.out U5 (HWV.out.trans HLx5.out) (HZV.out.trans HLx5.out) A5 (n2 + 1) e5 (p.take 30 ++ [nx 3 (V.heap.size) [TM]]) (by rw [List.length_append, HNL.out]; rfl) (by omega) (Row.of_own HO5.out) (fun n hn => by
                      rcases List.mem_append.1 hn with hn | hn
                      · exact HNO.out U5 (HWV.out.trans HLx5.out) n hn
                      · rw [List.mem_singleton.1 hn]
                        exact has_nx (by simp) HRLx5.out) (fun n hn => by
                      rcases List.mem_append.1 hn with hn | hn
                      · exact HNW.out n hn
                      · rw [List.mem_singleton.1 hn]
                        exact wfn_nx _ _ _)).mono ?_
                    rintro e w9 hsel
                    obtain ⟨A9, n9, c9, S9, rfl, -, h2, -, -, -, h6⟩ := sel_all hsel
                    have HE9 := hide h2
                    have HL9 := hide (HLx5.out.trans h6)
                    clear h2 h6 hsel
                    obtain ⟨q9, hq9⟩ : ∃ q, pr.mayP cols (p.take 30 ++ [nx 3 (V.heap.size) [TM]]) = q := ⟨_, rfl⟩
                    rw [hq9] at HE9 ⊢
                    obtain ⟨r9, hr9⟩ : ∃ r : Int, (if q9 = true then (0 : Int) else 1) = r := ⟨_, rfl⟩
                    rw [hr9]
                    have HR9 := hide hr9
                    have HQ9 := hide hq9
                    clear hq9 hr9
                    go_wp2_with fail
                    refine ⟨HL9.out, ?_⟩
                    repeat (first | (refine pig_any (v := _) rfl (fun W' => by go_simp <;> exact rfl) ?_; simp only [Act.put, List.setIfInBounds_toArray, List.set_cons_zero, List.set_cons_succ]) | (refine pig_take (v := _) rfl (fun W' hW' => by go_simp <;> exact rfl) ?_; simp only [Act.put, List.setIfInBounds_toArray, List.set_cons_zero, List.set_cons_succ]))
                    refine pig_late ?_
                    go_wp2_with fail
                    refine pig_done ?_
                    refine at_done (by kernel_rfl) ?_ 0
                    go_wp2_with fail
                    go_meet
                    exact ⟨V.heap.size, A9, n9, c9, q9, r9, rfl, rfl, HR9, HQ9, HE9, HL9⟩
                  · go_wp2_with fail
                    obtain ⟨U3, hW, hR, hL, hz⟩ : ∃ X, U2.alloc (.cells #[.int .i64 3, .int .i64 0, .bool false, .int .i64 0, .string ⟨#[]⟩, .slice none 0 0, .slice (some ⟨V.heap.size, 0, none⟩) 1 1] 45) = X ∧ Row X X.heap.size (some ⟨U2.heap.size, 0, none⟩) (ncs [nx 3 (V.heap.size) [TM]]) ∧ Le U2 X ∧ X.heap.size = U2.heap.size + 1 := ⟨_, rfl, (row_new U2 #[.int .i64 3, .int .i64 0, .bool false, .int .i64 0, .string ⟨#[]⟩, .slice none 0 0, .slice (some ⟨V.heap.size, 0, none⟩) 1 1] _ (0, 0)).more (by simp), (Below.refl _ _).alloc (Nat.le_refl _) _, by simp⟩
                    rw [hW]
                    have HRLx3 := hide ((hL.row HRLx2.out (Nat.le_refl _)).more hL.size)
                    have HTLx3 := hide (show V.heap.size < U3.heap.size from Nat.lt_of_lt_of_le HTLx2.out hL.size)
                    have HRNx3 := hide hR
                    have HTNx3 := hide (show U2.heap.size < U3.heap.size by omega)
                    have HNNx3 := hide (show ∀ g, Value.ownBlock (.slice (some ⟨U1.heap.size, 0, none⟩) 0 0) = some g → g ≠ U2.heap.size from fun g hg => by have := (HO2.out.lt g hg).2; omega)
                    have HO3 := hide (own_below HO2.out hL)
                    have HLx3 := hide (HLx2.out.trans hL)
                    clear hW hR hL hz
                    refine ⟨HLx3.out, ?_⟩
                    refine at_seg [(5, 2), (13, 2), (14, 2), (15, 1), (16, 1), (17, 1), (18, 1), (19, 3)] 0 (by rfl) (by kernel_rfl) ?_
                    simp only [opsPiG, List.filterMap_cons, List.filterMap_nil, List.getElem?_toArray, List.getElem?_cons_zero, List.getElem?_cons_succ, Option.map_some]
                    refine pig_run ?_
                    go_wp2_with (at_builtin; refine wpList_append_row _ rfl (.tmp 87) (.tmp 89) 25 rfl V.heap.size 45 infoP Tryd.underlying25 rfl (by omega) (.slice (some ⟨U1.heap.size, 0, none⟩) 0 0) 0 [] rfl HO3.out _ NA n2 nc (ncs (p.take 30)) rfl (by rw [ncs_len, HNL.out]) (HNV.out _ HLx3.out) (ncs_one _) (by simp only [maxLen]; omega) (by omega) HLx3.out.size ?_; intro v' U4 hown' hg hat; rw [Nat.zero_add, List.nil_append] at hown'; obtain ⟨A4, e4, rfl, -, -⟩ := own_form hown')
                    have HRLx4 := hide ((HRLx3.out.keptIn hg (fun e => HNLx2.out _ e.symm rfl)).more hg.size)
                    have HTLx4 := hide (show V.heap.size < U4.heap.size from Nat.lt_of_lt_of_le HTLx3.out hg.size)
                    have HRNx4 := hide ((HRNx3.out.keptIn hg (fun e => HNNx3.out _ e.symm rfl)).more hg.size)
                    have HTNx4 := hide (show U2.heap.size < U4.heap.size from Nat.lt_of_lt_of_le HTNx3.out hg.size)
                    have HNLx4 := hide (show ∀ g, Value.ownBlock (.slice A4 n2 e4) = some g → g ≠ V.heap.size from fun g hg2 => by
                      rcases hat with h | h
                      · exact HNLx2.out g (h.symm.trans hg2)
                      · have h1 : U3.heap.size = g := Option.some.inj (h.symm.trans hg2)
                        have h2 := HTLx3.out
                        omega)
                    have HNNx4 := hide (show ∀ g, Value.ownBlock (.slice A4 n2 e4) = some g → g ≠ U2.heap.size from fun g hg2 => by
                      rcases hat with h | h
                      · exact HNNx3.out g (h.symm.trans hg2)
                      · have h1 : U3.heap.size = g := Option.some.inj (h.symm.trans hg2)
                        have h2 := HTNx3.out
                        omega)
                    have HLx4 := hide (show Le V U4 from Below.trans HLx3.out (below_own hg (Nat.le_refl _) HLx3.out.size (fun g hg3 => own_ge HO3.out hg3 (Nat.le_refl _))))
                    have HO4 := hide hown'
                    clear hown' hg hat
                    refine ⟨HLx4.out, ?_⟩
                    refine pig_run ?_
                    go_wp2_with (at_builtin; refine wpList_append_row _ rfl (.tmp 90) (.tmp 97) 25 rfl V.heap.size 45 infoP Tryd.underlying25 rfl (by omega) (.slice A4 n2 e4) n2 (ncs (p.take 30)) rfl HO4.out _ (some ⟨U2.heap.size, 0, none⟩) 1 1 (ncs [nx 3 (V.heap.size) [TM]]) rfl rfl HRNx4.out (ncs_one _) (by simp only [maxLen]; omega) (by omega) HLx4.out.size ?_; intro v' U5 hown' hg hat; rw [← ncs_append] at hown'; obtain ⟨A5, e5, rfl, -, -⟩ := own_form hown')
                    have HRLx5 := hide ((HRLx4.out.keptIn hg (fun e => HNLx4.out _ e.symm rfl)).more hg.size)
                    have HTLx5 := hide (show V.heap.size < U5.heap.size from Nat.lt_of_lt_of_le HTLx4.out hg.size)
                    have HLx5 := hide (show Le V U5 from Below.trans HLx4.out (below_own hg (Nat.le_refl _) HLx4.out.size (fun g hg3 => own_ge HO4.out hg3 (Nat.le_refl _))))
                    have HO5 := hide hown'
                    clear hown' hg hat
                    refine ⟨HLx5.out, ?_⟩
                    refine pig_run ?_
                    go_wp2_with fail
                    refine (HSE.out U5 (HWV.out.trans HLx5.out) (HZV.out.trans HLx5.out) A5 (n2 + 1) e5 (p.take 30 ++ [nx 3 (V.heap.size) [TM]]) (by rw [List.length_append, HNL.out]; rfl) (by omega) (Row.of_own HO5.out) (fun n hn => by
                      rcases List.mem_append.1 hn with hn | hn
                      · exact HNO.out U5 (HWV.out.trans HLx5.out) n hn
                      · rw [List.mem_singleton.1 hn]
                        exact has_nx (by simp) HRLx5.out) (fun n hn => by
                      rcases List.mem_append.1 hn with hn | hn
                      · exact HNW.out n hn
                      · rw [List.mem_singleton.1 hn]
                        exact wfn_nx _ _ _)).mono ?_
                    rintro e w9 hsel
                    obtain ⟨A9, n9, c9, S9, rfl, -, h2, -, -, -, h6⟩ := sel_all hsel
                    have HE9 := hide h2
                    have HL9 := hide (HLx5.out.trans h6)
                    clear h2 h6 hsel
                    obtain ⟨q9, hq9⟩ : ∃ q, pr.mayP cols (p.take 30 ++ [nx 3 (V.heap.size) [TM]]) = q := ⟨_, rfl⟩
                    rw [hq9] at HE9 ⊢
                    obtain ⟨r9, hr9⟩ : ∃ r : Int, (if q9 = true then (0 : Int) else 1) = r := ⟨_, rfl⟩
                    rw [hr9]
                    have HR9 := hide hr9
                    have HQ9 := hide hq9
                    clear hq9 hr9
                    go_wp2_with fail
                    refine ⟨HL9.out, ?_⟩
                    repeat (first | (refine pig_any (v := _) rfl (fun W' => by go_simp <;> exact rfl) ?_; simp only [Act.put, List.setIfInBounds_toArray, List.set_cons_zero, List.set_cons_succ]) | (refine pig_take (v := _) rfl (fun W' hW' => by go_simp <;> exact rfl) ?_; simp only [Act.put, List.setIfInBounds_toArray, List.set_cons_zero, List.set_cons_succ]))
                    refine pig_late ?_
                    go_wp2_with fail
                    refine pig_done ?_
                    refine at_done (by kernel_rfl) ?_ 0
                    go_wp2_with fail
                    go_meet
                    exact ⟨V.heap.size, A9, n9, c9, q9, r9, rfl, rfl, HR9, HQ9, HE9, HL9⟩
                · go_wp2_with fail
                  obtain ⟨U2, hW, hR, hL, hz⟩ : ∃ X, U1.alloc (.cells #[.int .i64 3, .int .i64 0, .bool false, .int .i64 0, .string ⟨#[]⟩, .slice none 0 0, .slice (some ⟨V.heap.size, 0, none⟩) 1 1] 45) = X ∧ Row X X.heap.size (some ⟨U1.heap.size, 0, none⟩) (ncs [nx 3 (V.heap.size) [TM]]) ∧ Le U1 X ∧ X.heap.size = U1.heap.size + 1 := ⟨_, rfl, (row_new U1 #[.int .i64 3, .int .i64 0, .bool false, .int .i64 0, .string ⟨#[]⟩, .slice none 0 0, .slice (some ⟨V.heap.size, 0, none⟩) 1 1] _ (0, 0)).more (by simp), (Below.refl _ _).alloc (Nat.le_refl _) _, by simp⟩
                  rw [hW]
                  have HRLx2 := hide ((hL.row HRLx1.out (Nat.le_refl _)).more hL.size)
                  have HTLx2 := hide (show V.heap.size < U2.heap.size from Nat.lt_of_lt_of_le HTLx1.out hL.size)
                  have HRNx2 := hide hR
                  have HTNx2 := hide (show U1.heap.size < U2.heap.size by omega)
                  have HLx2 := hide (HLx1.out.trans hL)
                  clear hW hR hL hz
                  refine ⟨HLx2.out, ?_⟩
                  refine at_seg [(2, 2), (5, 2), (13, 2), (14, 2), (15, 1), (16, 1), (17, 1), (18, 1), (19, 3)] 0 (by rfl) (by kernel_rfl) ?_
                  simp only [opsPiG, List.filterMap_cons, List.filterMap_nil, List.getElem?_toArray, List.getElem?_cons_zero, List.getElem?_cons_succ, Option.map_some]
                  refine pig_run ?_
                  go_wp2_with fail
                  obtain ⟨U3, hW, hZ, hL⟩ : ∃ X, U2.alloc (.cells #[] 45) = X ∧ X.ownsRow V.heap.size 45 7 (.slice (some ⟨U2.heap.size, 0, none⟩) 0 0) 0 [] ∧ Le U2 X := ⟨_, rfl, own_zero2 U2 _ HLx2.out.size _ _, (Below.refl _ _).alloc (Nat.le_refl _) _⟩
                  rw [hW]
                  have HRLx3 := hide ((hL.row HRLx2.out (Nat.le_refl _)).more hL.size)
                  have HTLx3 := hide (show V.heap.size < U3.heap.size from Nat.lt_of_lt_of_le HTLx2.out hL.size)
                  have HRNx3 := hide ((hL.row HRNx2.out (Nat.le_refl _)).more hL.size)
                  have HTNx3 := hide (show U1.heap.size < U3.heap.size from Nat.lt_of_lt_of_le HTNx2.out hL.size)
                  have HNLx3 := hide (show ∀ g, Value.ownBlock (.slice (some ⟨U2.heap.size, 0, none⟩) 0 0) = some g → g ≠ V.heap.size from fun g hg => by have h1 : U2.heap.size = g := Option.some.inj hg; have h2 := HTLx2.out; omega)
                  have HNNx3 := hide (show ∀ g, Value.ownBlock (.slice (some ⟨U2.heap.size, 0, none⟩) 0 0) = some g → g ≠ U1.heap.size from fun g hg => by have h1 : U2.heap.size = g := Option.some.inj hg; have h2 := HTNx2.out; omega)
                  have HO3 := hide hZ
                  have HLx3 := hide (HLx2.out.trans hL)
                  clear hW hZ hL
                  refine ⟨HLx3.out, ?_⟩
                  refine pig_run ?_
                  go_wp2_with (at_builtin; refine wpList_append_row _ rfl (.tmp 87) (.tmp 89) 25 rfl V.heap.size 45 infoP Tryd.underlying25 rfl (by omega) (.slice (some ⟨U2.heap.size, 0, none⟩) 0 0) 0 [] rfl HO3.out _ NA n2 nc (ncs (p.take 30)) rfl (by rw [ncs_len, HNL.out]) (HNV.out _ HLx3.out) (ncs_one _) (by simp only [maxLen]; omega) (by omega) HLx3.out.size ?_; intro v' U4 hown' hg hat; rw [Nat.zero_add, List.nil_append] at hown'; obtain ⟨A4, e4, rfl, -, -⟩ := own_form hown')
                  have HRLx4 := hide ((HRLx3.out.keptIn hg (fun e => HNLx3.out _ e.symm rfl)).more hg.size)
                  have HTLx4 := hide (show V.heap.size < U4.heap.size from Nat.lt_of_lt_of_le HTLx3.out hg.size)
                  have HRNx4 := hide ((HRNx3.out.keptIn hg (fun e => HNNx3.out _ e.symm rfl)).more hg.size)
                  have HTNx4 := hide (show U1.heap.size < U4.heap.size from Nat.lt_of_lt_of_le HTNx3.out hg.size)
                  have HNLx4 := hide (show ∀ g, Value.ownBlock (.slice A4 n2 e4) = some g → g ≠ V.heap.size from fun g hg2 => by
                    rcases hat with h | h
                    · exact HNLx3.out g (h.symm.trans hg2)
                    · have h1 : U3.heap.size = g := Option.some.inj (h.symm.trans hg2)
                      have h2 := HTLx3.out
                      omega)
                  have HNNx4 := hide (show ∀ g, Value.ownBlock (.slice A4 n2 e4) = some g → g ≠ U1.heap.size from fun g hg2 => by
                    rcases hat with h | h
                    · exact HNNx3.out g (h.symm.trans hg2)
                    · have h1 : U3.heap.size = g := Option.some.inj (h.symm.trans hg2)
                      have h2 := HTNx3.out
                      omega)
                  have HLx4 := hide (show Le V U4 from Below.trans HLx3.out (below_own hg (Nat.le_refl _) HLx3.out.size (fun g hg3 => own_ge HO3.out hg3 (Nat.le_refl _))))
                  have HO4 := hide hown'
                  clear hown' hg hat
                  refine ⟨HLx4.out, ?_⟩
                  refine pig_run ?_
                  go_wp2_with (at_builtin; refine wpList_append_row _ rfl (.tmp 90) (.tmp 97) 25 rfl V.heap.size 45 infoP Tryd.underlying25 rfl (by omega) (.slice A4 n2 e4) n2 (ncs (p.take 30)) rfl HO4.out _ (some ⟨U1.heap.size, 0, none⟩) 1 1 (ncs [nx 3 (V.heap.size) [TM]]) rfl rfl HRNx4.out (ncs_one _) (by simp only [maxLen]; omega) (by omega) HLx4.out.size ?_; intro v' U5 hown' hg hat; rw [← ncs_append] at hown'; obtain ⟨A5, e5, rfl, -, -⟩ := own_form hown')
                  have HRLx5 := hide ((HRLx4.out.keptIn hg (fun e => HNLx4.out _ e.symm rfl)).more hg.size)
                  have HTLx5 := hide (show V.heap.size < U5.heap.size from Nat.lt_of_lt_of_le HTLx4.out hg.size)
                  have HLx5 := hide (show Le V U5 from Below.trans HLx4.out (below_own hg (Nat.le_refl _) HLx4.out.size (fun g hg3 => own_ge HO4.out hg3 (Nat.le_refl _))))
                  have HO5 := hide hown'
                  clear hown' hg hat
                  refine ⟨HLx5.out, ?_⟩
                  refine pig_run ?_
                  go_wp2_with fail
                  refine (HSE.out U5 (HWV.out.trans HLx5.out) (HZV.out.trans HLx5.out) A5 (n2 + 1) e5 (p.take 30 ++ [nx 3 (V.heap.size) [TM]]) (by rw [List.length_append, HNL.out]; rfl) (by omega) (Row.of_own HO5.out) (fun n hn => by
                    rcases List.mem_append.1 hn with hn | hn
                    · exact HNO.out U5 (HWV.out.trans HLx5.out) n hn
                    · rw [List.mem_singleton.1 hn]
                      exact has_nx (by simp) HRLx5.out) (fun n hn => by
                    rcases List.mem_append.1 hn with hn | hn
                    · exact HNW.out n hn
                    · rw [List.mem_singleton.1 hn]
                      exact wfn_nx _ _ _)).mono ?_
                  rintro e w9 hsel
                  obtain ⟨A9, n9, c9, S9, rfl, -, h2, -, -, -, h6⟩ := sel_all hsel
                  have HE9 := hide h2
                  have HL9 := hide (HLx5.out.trans h6)
                  clear h2 h6 hsel
                  obtain ⟨q9, hq9⟩ : ∃ q, pr.mayP cols (p.take 30 ++ [nx 3 (V.heap.size) [TM]]) = q := ⟨_, rfl⟩
                  rw [hq9] at HE9 ⊢
                  obtain ⟨r9, hr9⟩ : ∃ r : Int, (if q9 = true then (0 : Int) else 1) = r := ⟨_, rfl⟩
                  rw [hr9]
                  have HR9 := hide hr9
                  have HQ9 := hide hq9
                  clear hq9 hr9
                  go_wp2_with fail
                  refine ⟨HL9.out, ?_⟩
                  repeat (first | (refine pig_any (v := _) rfl (fun W' => by go_simp <;> exact rfl) ?_; simp only [Act.put, List.setIfInBounds_toArray, List.set_cons_zero, List.set_cons_succ]) | (refine pig_take (v := _) rfl (fun W' hW' => by go_simp <;> exact rfl) ?_; simp only [Act.put, List.setIfInBounds_toArray, List.set_cons_zero, List.set_cons_succ]))
                  refine pig_late ?_
                  go_wp2_with fail
                  refine pig_done ?_
                  refine at_done (by kernel_rfl) ?_ 0
                  go_wp2_with fail
                  go_meet
                  exact ⟨V.heap.size, A9, n9, c9, q9, r9, rfl, rfl, HR9, HQ9, HE9, HL9⟩
            case rest =>
              obtain ⟨b9, A9, n9, c9, q9, r9, rfl, rfl, HR9, HQ9, HE9, HL9⟩ := hcut
              clear x1 HSE
              have HL10 := hide (HWV.out.trans HL9.out)
              obtain ⟨Z9, rfl⟩ : ∃ Y, Y = wc := ⟨_, rfl⟩
              cases q7
              case false =>
                obtain rfl : r7 = 1 := HR7.out.symm
                go_wp2_with fail
                go_ret
                exact ⟨rfl, HL10.out⟩
              case true =>
                obtain rfl : r7 = 0 := HR7.out.symm
                cases q9
                case false =>
                  obtain rfl : r9 = 1 := HR9.out.symm
                  go_wp2_with fail
                  go_ret
                  exact ⟨rfl, HL10.out⟩
                case true =>
                  obtain rfl : r9 = 0 := HR9.out.symm
                  have hsum : n7 + n9 ≤ n5 := by
                    have e7 := HE7.out
                    have e9 := HE9.out
                    rw [if_pos rfl] at e7 e9
                    have hlen := (pr.may_fine HQ7.out).1
                    rw [HNL.out] at hlen
                    obtain ⟨T, hT2⟩ : ∃ T, n2 = T + 1 := ⟨n2 - 1, by omega⟩
                    have hTT : TM = (T : Int) := by rw [HTM.out, hT2]; omega
                    subst hTT
                    have := filter_two (asked_both (HNL.out.trans hT2) b9) S
                    rw [← e7, ← e9, HSL.out] at this
                    exact this
                  have hw79 : IntKind.i64.wrap ((n7 : Int) + (n9 : Int)) = (n7 : Int) + (n9 : Int) := IntWalk.i64_in _ (by omega)
                  have hle79 : (n7 : Int) + (n9 : Int) ≤ n5 := by omega
                  have hnn : ((n5 : Int) == n5) = true := by simp
                  have H59 := hide ((H57.out.trans H7V.out).trans HL9.out)
                  have HRA9 := hide ((H59.out.row H54.out (Nat.le_refl _)).more H59.out.size)
                  have HK9 := hide (fun x hx => (H55.out x hx).on H59.out (Nat.le_refl _) H59.out.size)
                  have HRS9 := hide (((HZV.out.trans HL9.out).row HSR.out (Nat.le_refl _)).more (HZV.out.trans HL9.out).size)
                  go_wp2_with fail
                  go_loopw [18] (fun s wr => ∃ i : Nat, s = .int .i64 i ∧ i ≤ n5 ∧ Hid (Le Z9 wr)) (fun s _ => n5 - (intOf s).toNat)
                  case atStart => exact ⟨0, rfl, Nat.zero_le _, hide (Le.refl _)⟩
                  case round =>
                    obtain ⟨i, rfl, hi, HLr⟩ := hrel
                    by_cases hin : i < n5
                    · obtain ⟨x, hx⟩ : ∃ x, S[i]? = some x := ⟨_, List.getElem?_eq_getElem (by rw [HSL.out]; exact hin)⟩
                      obtain ⟨y, hy⟩ : ∃ y, S5[i]? = some y := ⟨_, List.getElem?_eq_getElem (by rw [H51.out]; exact hin)⟩
                      have hiI : (i : Int) < n5 := by omega
                      have hc : cont y = (x.k, []) := by
                        have h1 : (S5.map cont)[i]? = some (cont y) := by rw [List.getElem?_map, hy]; rfl
                        rw [H53.out, List.getElem?_map, hx] at h1
                        exact (Option.some.inj h1).symm
                      have hk : y.k = x.k := congrArg Prod.fst hc
                      have hvs : y.vals = [] := congrArg Prod.snd hc
                      have hyn : y.n = 0 := by have := (HK9.out y (List.mem_of_getElem? hy)).1; rw [hvs] at this; exact this.symm
                      obtain ⟨bX, oX, eX, hbX, x0, x1, x2, -⟩ := row_kd HRS9.out hx
                      obtain ⟨bY, oY, eY, hbY, y0, y1, y2, y3⟩ := row_kd HRA9.out hy
                      rw [hk] at y0 y1 y2
                      rw [hyn] at y3
                      subst eX
                      subst eY
                      go_upto_region 23 with fail
                      obtain ⟨U, hU⟩ : ∃ U, wr.drew = U := ⟨_, rfl⟩
                      have HLU := hide (show Le Z9 U by rw [← hU]; exact HLr.out.drew)
                      have HU := hide hU
                      have yc0 : ∀ W, Le U W → W.cell? ⟨bY, oY + i * 4, none⟩ = _ := fun W h => ((HLU.out.trans h).cell (p := ⟨bY, oY + i * 4, none⟩) hbY).trans y0
                      have yc1 : ∀ W, Le U W → W.cell? ⟨bY, oY + i * 4 + 1, none⟩ = _ := fun W h => ((HLU.out.trans h).cell (p := ⟨bY, oY + i * 4 + 1, none⟩) hbY).trans y1
                      have yc2 : ∀ W, Le U W → W.cell? ⟨bY, oY + i * 4 + 2, none⟩ = _ := fun W h => ((HLU.out.trans h).cell (p := ⟨bY, oY + i * 4 + 2, none⟩) hbY).trans y2
                      have yc3 : ∀ W, Le U W → W.cell? ⟨bY, oY + i * 4 + 3, none⟩ = _ := fun W h => ((HLU.out.trans h).cell (p := ⟨bY, oY + i * 4 + 3, none⟩) hbY).trans y3
                      have xc0 : ∀ W, Le U W → W.cell? ⟨bX, oX + i * 4, none⟩ = _ := fun W h => ((HLU.out.trans h).cell (p := ⟨bX, oX + i * 4, none⟩) hbX).trans x0
                      have xc1 : ∀ W, Le U W → W.cell? ⟨bX, oX + i * 4 + 1, none⟩ = _ := fun W h => ((HLU.out.trans h).cell (p := ⟨bX, oX + i * 4 + 1, none⟩) hbX).trans x1
                      have xc2 : ∀ W, Le U W → W.cell? ⟨bX, oX + i * 4 + 2, none⟩ = _ := fun W h => ((HLU.out.trans h).cell (p := ⟨bX, oX + i * 4 + 2, none⟩) hbX).trans x2
                      clear x0 x1 x2 y0 y1 y2 y3 hU hx hy hc hk hvs hyn
                      refine region_pi [(0, true), (1, true), (2, true), (3, true), (4, true), (5, true), (6, true), (7, true), (8, true), (9, true), (10, true), (11, true), (12, true), (13, true), (14, true), (15, true), (16, true), (17, true), (18, true), (19, true)] (by kernel_rfl) (by kernel_rfl) ?_
                      simp only [opsPi, List.filterMap_cons, List.filterMap_nil, List.getElem?_toArray, List.getElem?_cons_zero, List.getElem?_cons_succ, Option.map_some]
                      rw [HU.out]
                      repeat (first | (refine pi_take (v := _) rfl (fun W hW => by go_simp <;> exact rfl) ?_; simp only [Act.put, List.setIfInBounds_toArray, List.set_cons_zero, List.set_cons_succ]) | (refine pi_skip rfl ?_; simp only [Act.put, List.setIfInBounds_toArray, List.set_cons_zero, List.set_cons_succ]))
                      refine pi_done ?_
                      clear yc0 yc1 yc2 yc3 xc0 xc1 xc2
                      go_wp2_with fail
                      exact ⟨⟨i + 1, by go_num, by omega, HLU⟩, by simp [intOf]; omega⟩
                    · obtain rfl : i = n5 := by omega
                      have hle : ¬ (i : Int) < i := by omega
                      go_wp2_with fail
                      go_ret
                      exact ⟨rfl, HL10.out.trans HLr.out⟩
#print axioms picks_walk
end Go.Proofs.YtjedpjfmlaganaaDoor.vw
