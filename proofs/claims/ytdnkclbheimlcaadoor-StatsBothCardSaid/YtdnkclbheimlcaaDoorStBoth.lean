/-
  The law on what is known of both, walked (written by genB.py).
-/
import Derived.Test.YtdnkclbheimlcaaDoorStN
import Derived.Test.YtdnkclbheimlcaaDoorStBMath
import Derived.Test.YtdnkclbheimlcaaDoorStG2
namespace Go.Proofs.YtdnkclbheimlcaaDoor
open Go.RowKit
set_option linter.unusedVariables false

theorem vcs_len : ∀ l : List va.Val, (vcs l).length = l.length * 3
  | [] => rfl
  | v :: l => by rw [vcs_cons]; simp only [List.length_cons, vcs_len l]; omega

/-- Where the law stands: the two rows as they were kept. -/
def SB (w : World) (B : Nat) (A A' : Option Addr) (o o' : List va.Val) (X : World) : Prop := w.heap.size ≤ B ∧ B ≤ X.heap.size ∧ Row X B A (vcs o) ∧ Row X B A' (vcs o') ∧ Le w X
theorem SB.on {w X X' : World} {B C : Nat} {A A' : Option Addr} {o o' : List va.Val} (h : SB w B A A' o o' X) (hb : Below C X X') (hC : B ≤ C) : SB w B A A' o o' X' :=
  ⟨h.1, Nat.le_trans h.2.1 hb.size, h.2.2.1.below hb hC, h.2.2.2.1.below hb hC, Below.trans h.2.2.2.2 (Below.mono hb (Nat.le_trans h.1 hC))⟩
theorem kept_box {w X : World} {B : Nat} {A A' : Option Addr} {o o' : List va.Val} (h : SB w B A A' o o' X) (z cs : Array Value) (t : TypeId) : SB w B A A' o o' ((X.alloc (.cells z t)).setRow X.heap.size cs) :=
  h.on (below_setRow ((Below.refl _ _).alloc (Nat.le_refl _) _) (Nat.le_refl _) _) h.2.1
theorem other_box {X : World} {g : Nat} {z cs ds : Array Value} {t u : TypeId} (h : Box X g ds u) : Box ((X.alloc (.cells z t)).setRow X.heap.size cs) g ds u :=
  (setRow_other _ _ _ _ (by have := h.lt; omega)).trans (h.alloc _)

set_option maxRecDepth 100000 in
set_option maxHeartbeats 4000000 in
theorem statsboth_walk (w : World) (k : Int) (A : Option Addr) (n c0 : Nat) (l : List va.Val) (hl : l.length = n) (hn0 : n ≤ 9223372036854775807) (hin : ∀ v ∈ l, st.In v.n ∧ v.s.size ≤ 9223372036854775807) (hr : Row w w.heap.size A (vcs l))
    (A' : Option Addr) (n' c0' : Nat) (l' : List va.Val) (hl' : l'.length = n') (hn0' : n' ≤ 9223372036854775807) (hin' : ∀ v ∈ l', st.In v.n ∧ v.s.size ≤ 9223372036854775807) (hr' : Row w w.heap.size A' (vcs l')) (hT : Tabs8 w) :
    Calls Tryd.prog 6 #[.int .i64 k, .slice A n c0, .slice A' n' c0'] w fun e w' => e = .returned (.bool true) ∧ Below w.heap.size w w' := by
  have HIN := hide hin
  have HIN' := hide hin'
  have HT := hide hT
  have HL := hide hl
  have HL' := hide hl'
  have HR := hide hr
  have HR' := hide hr'
  clear hin hin' hT hl hl' hr hr'
  go_enter Tryd.func6, Tryd.ntmps6
  go_wp2_with fail
  refine (shown_any w).mono ?_
  rintro e w1 ⟨rfl, hb1⟩
  have HB1 := hide (show Le w w1 from hb1)
  clear hb1
  go_wp2_with fail
  refine (vfew_may w1 k A n c0 l HL.out hn0 (fun v hv => (HIN.out v hv).2) (HT.out.le HB1.out) ((HB1.out.row HR.out (Nat.le_refl _)).more HB1.out.size)).mono ?_
  rintro e w2 ⟨o, A2, p, c2, rfl, hol, hp, hom, hr2, hb2⟩
  have HB2 := hide (show Le w w2 from HB1.out.trans hb2)
  have HOL := hide hol
  have HOM := hide hom
  have HR2 := hide hr2
  clear hol hom hr2 hb2
  go_wp2_with fail
  refine (vfew_may w2 k A' n' c0' l' HL'.out hn0' (fun v hv => (HIN'.out v hv).2) (HT.out.le HB2.out) ((HB2.out.row HR'.out (Nat.le_refl _)).more HB2.out.size)).mono ?_
  rintro e w3 ⟨o', A3, q, c3, rfl, hol', hq, hom', hr3, hb3⟩
  have HSB := hide (show SB w w3.heap.size A2 A3 o o' w3 from ⟨(HB2.out.trans hb3).size, Nat.le_refl _, ((show Le w2 w3 from hb3).row HR2.out (Nat.le_refl _)).more hb3.size, hr3, HB2.out.trans hb3⟩)
  obtain ⟨B, hB⟩ : ∃ B, w3.heap.size = B := ⟨_, rfl⟩
  rw [hB] at HSB
  have HB := hide hB
  have HOL' := hide hol'
  have hii : ∀ v ∈ o, st.In v.n := fun v hv => (HIN.out v (HOM.out v hv).1).1
  have hii' : ∀ v ∈ o', st.In v.n := fun v hv => (HIN'.out v (hom' v hv).1).1
  have hss : ∀ v ∈ o, v.s.size ≤ 9223372036854775807 := fun v hv => (HIN.out v (HOM.out v hv).1).2
  have hss' : ∀ v ∈ o', v.s.size ≤ 9223372036854775807 := fun v hv => (HIN'.out v (hom' v hv).1).2
  have hmy : ∀ v ∈ o, va.mayV k v = true := fun v hv => (HOM.out v hv).2
  have hmy' : ∀ v ∈ o', va.mayV k v = true := fun v hv => (hom' v hv).2
  have hlo : o.length ≤ 600 := by rw [HOL.out]; omega
  have hlo' : o'.length ≤ 600 := by rw [hol']; omega
  have hla : (o ++ o').length ≤ 600 := by rw [List.length_append, HOL.out, hol']; omega
  have hia : ∀ v ∈ o ++ o', st.In v.n := fun v hv => (List.mem_append.1 hv).elim (hii v) (hii' v)
  have hsa : ∀ v ∈ o ++ o', v.s.size ≤ 9223372036854775807 := fun v hv => (List.mem_append.1 hv).elim (hss v) (hss' v)
  have hma : ∀ v ∈ o ++ o', va.mayV k v = true := fun v hv => (List.mem_append.1 hv).elim (hmy v) (hmy' v)
  have hmay1 := hide (show ∀ (h : 1 ≤ k ∧ k ≤ 7) (W : World) (hT : Tabs8 W), Calls Tryd.prog 13 #[.int .i64 k, .agg (st.cells (st.of k o))] W fun e w' => e = .returned (.bool true) ∧ Below W.heap.size W w' from fun h W hT => by
    have e := st.may_of h hlo hii hmy
    have f := st.of_vals (k := k) (fun v => st.In v.n ∧ v.s.size ≤ 9223372036854775807) ⟨⟨by decide, by decide⟩, Nat.zero_le _⟩ (fun v hv => ⟨hii v hv, hss v hv⟩)
    have g := may_any W k (st.of k o) (st.wf_of_in f.1.1) (st.wf_of_in f.2.1) f.1.2 f.2.2 hT
    rwa [e] at g)
  have hmayF := hide (show ∀ (h : 1 ≤ k ∧ k ≤ 7) (W : World) (hT : Tabs8 W), Calls Tryd.prog 13 #[.int .i64 k, .agg (st.cells (st.of k (o ++ o')))] W fun e w' => e = .returned (.bool true) ∧ Below W.heap.size W w' from fun h W hT => by
    have e := st.may_of h hla hia hma
    have f := st.of_vals (k := k) (fun v => st.In v.n ∧ v.s.size ≤ 9223372036854775807) ⟨⟨by decide, by decide⟩, Nat.zero_le _⟩ (fun v hv => ⟨hia v hv, hsa v hv⟩)
    have g := may_any W k (st.of k (o ++ o')) (st.wf_of_in f.1.1) (st.wf_of_in f.2.1) f.1.2 f.2.2 hT
    rwa [e] at g)
  have hof1 := hide (fun (W : World) (hr : Row W W.heap.size A2 (vcs o)) => of_any W k A2 p c2 o HOL.out (by omega) hii hr)
  have hof2 := hide (fun (W : World) (hr : Row W W.heap.size A3 (vcs o')) => of_any W k A3 q c3 o' HOL'.out (by omega) hii' hr)
  have hofF := hide (fun (W : World) (Ar : Option Addr) (cr : Nat) (hr : Row W W.heap.size Ar (vcs (o ++ o'))) => of_any W k Ar (p + q) cr (o ++ o') (by rw [List.length_append, HOL.out, HOL'.out]) (by omega) hia hr)
  have b1 := st.of_bits (k := k) hlo hii
  have b2 := st.of_bits (k := k) hlo' hii'
  have hmg := hide (fun (W : World) => merge_any W k (st.of k o) (st.of k o') (by omega) b1.2.2 b2.2.2)
  have hmo := st.merge_of k o o'
  obtain ⟨S1, hS1⟩ : ∃ S, st.of k o = S := ⟨_, rfl⟩
  obtain ⟨S2, hS2⟩ : ∃ S, st.of k o' = S := ⟨_, rfl⟩
  obtain ⟨SF, hSF⟩ : ∃ S, st.of k (o ++ o') = S := ⟨_, rfl⟩
  rw [hS1] at hmay1 hof1
  rw [hS2] at hof2
  rw [hSF] at hmayF hofF
  rw [hS1, hS2] at hmg
  rw [hS1, hS2, hSF] at hmo
  obtain ⟨SM, hSM⟩ : ∃ S, st.merge k S1 S2 = S := ⟨_, rfl⟩
  rw [hSM] at hmg hmo
  clear hol' hom' hr3 hb3 hB hii hii' hss hss' hmy hmy' hlo hlo' hla hia hsa hma b1 b2 hS1 hS2 hSF hSM HB1 HB2 HR HR' HR2 HOM HIN HIN' HL HL'
  obtain ⟨c, hn, ⟨mn, mi, ms⟩, ⟨xn, xi, xs⟩, su, ov⟩ := S1
  obtain ⟨c', hn', ⟨mn', mi', ms'⟩, ⟨xn', xi', xs'⟩, su', ov'⟩ := S2
  obtain ⟨xc, xh, ⟨an, ai, as_⟩, ⟨bn, bi, bs⟩, fu, fo⟩ := SF
  obtain ⟨fc, fh, ⟨fn, fi, fs⟩, ⟨gn, gi, gs⟩, mu, mo⟩ := SM
  simp only [st.St.mk.injEq, va.Val.mk.injEq, and_true] at hmo
  obtain ⟨hmo, rfl, rfl, ⟨rfl, rfl, rfl⟩, rfl, rfl, rfl⟩ := hmo
  have HMO := hide (show mo = false → mu = fu ∧ mo = fo from fun h => by simpa [h] using hmo h)
  clear hmo
  have hle := HSB.out.2.2.2.2
  have HT3 := hide (HT.out.le hle)
  clear hle
  simp only [st.cells] at hmay1 hmayF hof1 hof2 hofF hmg
  go_upto_region 4 with fail
  go_cut [8] (fun s8 wx => ∃ g8, s8 = .pointer (some ⟨g8, 0, none⟩) ∧ B ≤ g8 ∧ Box wx g8 #[.int .i64 c, .bool hn, .bool mn, .int .i64 mi, .string ms, .bool xn, .int .i64 xi, .string xs, .int .i64 su, .bool ov] 28 ∧ SB w B A2 A3 o o' wx)
  case first =>
    go_wp2_with fail
    refine (hof1.out w3 ((HSB.out.2.2.1).more HSB.out.2.1)).mono ?_
    rintro e w4 ⟨rfl, hb⟩
    have HS4 := hide (HSB.out.on hb HSB.out.2.1)
    clear hb
    go_wp2_with (refine wpList_store_row rfl 28 _ _ rfl w4.heap.size _ rfl rfl 28 _ (box_new _ _ _) (by kernel_rfl) rfl (cells_one ⟨c, hn, ⟨mn, mi, ms⟩, ⟨xn, xi, xs⟩, su, ov⟩) ?_)
    go_meet
    exact ⟨_, rfl, HS4.out.2.1, setRow_heap _ _ _ _ _ _ (box_new _ _ _), kept_box HS4.out _ _ _⟩
  case rest =>
    clear HSB HB
    obtain ⟨g8, rfl, hg, hBx0, hSB⟩ := hcut
    have BX0 := hide hBx0
    have HSB := hide hSB
    have HG0 := hide hg
    clear hSB hg hBx0
    go_upto_region 5 with fail
    go_cut [9] (fun s9 wx => ∃ g9, s9 = .pointer (some ⟨g9, 0, none⟩) ∧ B ≤ g9 ∧ Box wx g8 #[.int .i64 c, .bool hn, .bool mn, .int .i64 mi, .string ms, .bool xn, .int .i64 xi, .string xs, .int .i64 su, .bool ov] 28 ∧ Box wx g9 #[.int .i64 c', .bool hn', .bool mn', .int .i64 mi', .string ms', .bool xn', .int .i64 xi', .string xs', .int .i64 su', .bool ov'] 28 ∧ SB w B A2 A3 o o' wx)
    case first =>
      go_wp2_with fail
      refine (hof2.out wc ((HSB.out.2.2.2.1).more HSB.out.2.1)).mono ?_
      rintro e w4 ⟨rfl, hb⟩
      have HS4 := hide (HSB.out.on hb HSB.out.2.1)
      have BY0 := hide (BX0.out.below hb BX0.out.lt)
      clear hb
      go_wp2_with (refine wpList_store_row rfl 28 _ _ rfl w4.heap.size _ rfl rfl 28 _ (box_new _ _ _) (by kernel_rfl) rfl (cells_one ⟨c', hn', ⟨mn', mi', ms'⟩, ⟨xn', xi', xs'⟩, su', ov'⟩) ?_)
      go_meet
      exact ⟨_, rfl, HS4.out.2.1, other_box BY0.out, setRow_heap _ _ _ _ _ _ (box_new _ _ _), kept_box HS4.out _ _ _⟩
    case rest =>
      clear HSB BX0
      obtain ⟨g9, rfl, hg, hBx0, hBx1, hSB⟩ := hcut
      have BX0 := hide hBx0
      have BX1 := hide hBx1
      have HSB := hide hSB
      have HG1 := hide hg
      clear hSB hg hBx0 hBx1
      go_upto_region 6 with fail
      go_cut [10] (fun s10 wx => ∃ ga, s10 = .pointer (some ⟨ga, 0, none⟩) ∧ B ≤ ga ∧ Box wx g8 #[.int .i64 c, .bool hn, .bool mn, .int .i64 mi, .string ms, .bool xn, .int .i64 xi, .string xs, .int .i64 su, .bool ov] 28 ∧ Box wx g9 #[.int .i64 c', .bool hn', .bool mn', .int .i64 mi', .string ms', .bool xn', .int .i64 xi', .string xs', .int .i64 su', .bool ov'] 28 ∧ Box wx ga #[.int .i64 fc, .bool fh, .bool fn, .int .i64 fi, .string fs, .bool gn, .int .i64 gi, .string gs, .int .i64 mu, .bool mo] 28 ∧ SB w B A2 A3 o o' wx)
      case first =>
        have a0 := BX0.out.cell 0 (.int .i64 c) rfl
        have a1 := BX0.out.cell 1 (.bool hn) rfl
        have a2 := BX0.out.cell 2 (.bool mn) rfl
        have a3 := BX0.out.cell 3 (.int .i64 mi) rfl
        have a4 := BX0.out.cell 4 (.string ms) rfl
        have a5 := BX0.out.cell 5 (.bool xn) rfl
        have a6 := BX0.out.cell 6 (.int .i64 xi) rfl
        have a7 := BX0.out.cell 7 (.string xs) rfl
        have a8 := BX0.out.cell 8 (.int .i64 su) rfl
        have a9 := BX0.out.cell 9 (.bool ov) rfl
        have b0 := BX1.out.cell 0 (.int .i64 c') rfl
        have b1 := BX1.out.cell 1 (.bool hn') rfl
        have b2 := BX1.out.cell 2 (.bool mn') rfl
        have b3 := BX1.out.cell 3 (.int .i64 mi') rfl
        have b4 := BX1.out.cell 4 (.string ms') rfl
        have b5 := BX1.out.cell 5 (.bool xn') rfl
        have b6 := BX1.out.cell 6 (.int .i64 xi') rfl
        have b7 := BX1.out.cell 7 (.string xs') rfl
        have b8 := BX1.out.cell 8 (.int .i64 su') rfl
        have b9 := BX1.out.cell 9 (.bool ov') rfl
        go_wp2_with fail
        refine (hmg.out wc).mono ?_
        rintro e w4 ⟨rfl, hb⟩
        have HS4 := hide (HSB.out.on hb HSB.out.2.1)
        have BY0 := hide (BX0.out.below hb BX0.out.lt)
        have BY1 := hide (BX1.out.below hb BX1.out.lt)
        clear hb
        clear a0 a1 a2 a3 a4 a5 a6 a7 a8 a9 b0 b1 b2 b3 b4 b5 b6 b7 b8 b9
        go_wp2_with (refine wpList_store_row rfl 28 _ _ rfl w4.heap.size _ rfl rfl 28 _ (box_new _ _ _) (by kernel_rfl) rfl (cells_one ⟨fc, fh, ⟨fn, fi, fs⟩, ⟨gn, gi, gs⟩, mu, mo⟩) ?_)
        go_meet
        exact ⟨_, rfl, HS4.out.2.1, other_box BY0.out, other_box BY1.out, setRow_heap _ _ _ _ _ _ (box_new _ _ _), kept_box HS4.out _ _ _⟩
      case rest =>
        clear HSB BX0 BX1
        obtain ⟨ga, rfl, hg, hBx0, hBx1, hBx2, hSB⟩ := hcut
        have BX0 := hide hBx0
        have BX1 := hide hBx1
        have BX2 := hide hBx2
        have HSB := hide hSB
        have HG2 := hide hg
        clear hSB hg hBx0 hBx1 hBx2
        go_upto_region 7 with fail
        go_cut [11] (fun s11 wx => ∃ gb, s11 = .pointer (some ⟨gb, 0, none⟩) ∧ (B ≤ gb ∧ ga < gb) ∧ Box wx g8 #[.int .i64 c, .bool hn, .bool mn, .int .i64 mi, .string ms, .bool xn, .int .i64 xi, .string xs, .int .i64 su, .bool ov] 28 ∧ Box wx g9 #[.int .i64 c', .bool hn', .bool mn', .int .i64 mi', .string ms', .bool xn', .int .i64 xi', .string xs', .int .i64 su', .bool ov'] 28 ∧ Box wx ga #[.int .i64 fc, .bool fh, .bool fn, .int .i64 fi, .string fs, .bool gn, .int .i64 gi, .string gs, .int .i64 mu, .bool mo] 28 ∧ Box wx gb #[.int .i64 fc, .bool fh, .bool fn, .int .i64 fi, .string fs, .bool gn, .int .i64 gi, .string gs, .int .i64 fu, .bool fo] 28 ∧ SB w B A2 A3 o o' wx)
        case first =>
          have hp0 : p ≤ 300 := hp
          have hq0 : q ≤ 300 := hq
          have hone : ∀ (l : List va.Val), ∀ u ∈ vcs l, u.oneCell' = true := fun l u hu => by simp only [vcs, List.mem_flatMap] at hu; obtain ⟨v, -, hu⟩ := hu; simp at hu; rcases hu with rfl | rfl | rfl <;> rfl
          have HONE := hide hone
          clear hone
          go_wp2_with (first | (at_builtin; refine wpList_append_row _ rfl (.tmp 30) (.tmp 31) 22 rfl wc.heap.size 26 infoV Tryd.underlying22 rfl (by omega) (.slice (some ⟨wc.heap.size, 0, none⟩) 0 0) 0 [] rfl (World.ownsRow_lit _ #[] 0 (Nat.le_refl _) (by simp) rfl) B A2 p c2 (vcs o) rfl (by rw [vcs_len, HOL.out]) ((HSB.out.2.2.1).alloc HSB.out.2.1 _) (HONE.out _) (by simp only [maxLen]; omega) (by omega) (by simp) ?_; intro v1 w1 hown1 hg1 hat1; rw [Nat.zero_add, List.nil_append] at hown1; obtain ⟨A1, cc1, rfl, hc1, hc1'⟩ := own_form hown1; have HO1 := hide hown1; have HV1 := hide (show Le wc w1 from ((Below.refl _ _).alloc (Nat.le_refl _) _).grown hg1 (by simp) (fun g hg => by simp [Value.ownBlock] at hg; omega)); have HS1 := hide (HSB.out.on HV1.out HSB.out.2.1); clear hown1 hg1 hat1 hc1 hc1') | (at_builtin; refine wpList_append_row _ rfl (.tmp 32) (.tmp 33) 22 rfl wc.heap.size 26 infoV Tryd.underlying22 rfl (by omega) (.slice A1 p cc1) p (vcs o) rfl HO1.out B A3 q c3 (vcs o') rfl (by rw [vcs_len, HOL'.out]) HS1.out.2.2.2.1 (HONE.out _) (by simp only [maxLen]; omega) (by omega) HV1.out.size ?_; intro v2 w2 hown2 hg2 hat2; rw [← vcs_append] at hown2; obtain ⟨A4, cc4, rfl, hc4, hc4'⟩ := own_form hown2; have HO2 := hide hown2; have HV2 := hide (show Le wc w2 from Below.trans HV1.out (below_own hg2 (Nat.le_refl _) HV1.out.size (fun g h => own_ge HO1.out h (Nat.le_refl _)))); have HS2 := hide (HSB.out.on HV2.out HSB.out.2.1); clear hown2 hg2 hat2 hc4 hc4'))
          refine (hofF.out w2 _ _ (Row.of_own HO2.out)).mono ?_
          rintro e w4 ⟨rfl, hb⟩
          have HS4 := hide (HS2.out.on hb HS2.out.2.1)
          have BY0 := hide ((BX0.out.below HV2.out BX0.out.lt).below hb (by have h1 := BX0.out.lt; have h2 := HV2.out.size; omega))
          have BY1 := hide ((BX1.out.below HV2.out BX1.out.lt).below hb (by have h1 := BX1.out.lt; have h2 := HV2.out.size; omega))
          have BY2 := hide ((BX2.out.below HV2.out BX2.out.lt).below hb (by have h1 := BX2.out.lt; have h2 := HV2.out.size; omega))
          clear hb
          go_wp2_with (refine wpList_store_row rfl 28 _ _ rfl w4.heap.size _ rfl rfl 28 _ (box_new _ _ _) (by kernel_rfl) rfl (cells_one ⟨fc, fh, ⟨fn, fi, fs⟩, ⟨gn, gi, gs⟩, fu, fo⟩) ?_)
          go_meet
          exact ⟨_, rfl, ⟨HS4.out.2.1, BY2.out.lt⟩, other_box BY0.out, other_box BY1.out, other_box BY2.out, setRow_heap _ _ _ _ _ _ (box_new _ _ _), kept_box HS4.out _ _ _⟩
        case rest =>
          clear HSB BX0 BX1 BX2
          obtain ⟨gb, rfl, hg, hBx0, hBx1, hBx2, hBx3, hSB⟩ := hcut
          have BX0 := hide hBx0
          have BX1 := hide hBx1
          have BX2 := hide hBx2
          have BX3 := hide hBx3
          have HSB := hide hSB
          have HG3 := hide hg.1
          have GG := hide hg.2
          clear hSB hg hBx0 hBx1 hBx2 hBx3
          have a0 := BX0.out.cell 0 (.int .i64 c) rfl
          have a1 := BX0.out.cell 1 (.bool hn) rfl
          have a2 := BX0.out.cell 2 (.bool mn) rfl
          have a3 := BX0.out.cell 3 (.int .i64 mi) rfl
          have a4 := BX0.out.cell 4 (.string ms) rfl
          have a5 := BX0.out.cell 5 (.bool xn) rfl
          have a6 := BX0.out.cell 6 (.int .i64 xi) rfl
          have a7 := BX0.out.cell 7 (.string xs) rfl
          have a8 := BX0.out.cell 8 (.int .i64 su) rfl
          have a9 := BX0.out.cell 9 (.bool ov) rfl
          have m0 := BX2.out.cell 0 (.int .i64 fc) rfl
          have m1 := BX2.out.cell 1 (.bool fh) rfl
          have m2 := BX2.out.cell 2 (.bool fn) rfl
          have m3 := BX2.out.cell 3 (.int .i64 fi) rfl
          have m4 := BX2.out.cell 4 (.string fs) rfl
          have m5 := BX2.out.cell 5 (.bool gn) rfl
          have m6 := BX2.out.cell 6 (.int .i64 gi) rfl
          have m7 := BX2.out.cell 7 (.string gs) rfl
          have m8 := BX2.out.cell 8 (.int .i64 mu) rfl
          have m9 := BX2.out.cell 9 (.bool mo) rfl
          have f0 := BX3.out.cell 0 (.int .i64 fc) rfl
          have f1 := BX3.out.cell 1 (.bool fh) rfl
          have f2 := BX3.out.cell 2 (.bool fn) rfl
          have f3 := BX3.out.cell 3 (.int .i64 fi) rfl
          have f4 := BX3.out.cell 4 (.string fs) rfl
          have f5 := BX3.out.cell 5 (.bool gn) rfl
          have f6 := BX3.out.cell 6 (.int .i64 gi) rfl
          have f7 := BX3.out.cell 7 (.string gs) rfl
          have f8 := BX3.out.cell 8 (.int .i64 fu) rfl
          have f9 := BX3.out.cell 9 (.bool fo) rfl
          have z8 := BX2.out.frozen 8
          have z9 := BX2.out.frozen 9
          have HLF := hide HSB.out.2.2.2.2
          obtain ⟨lk, hlk⟩ : ∃ b, decide (k < 1) = b := ⟨_, rfl⟩
          obtain ⟨gk, hgk⟩ : ∃ b, decide (7 < k) = b := ⟨_, rfl⟩
          cases mo
          · obtain ⟨rfl, rfl⟩ := HMO.out rfl
            cases lk
            · cases gk
              · have hk17 : 1 ≤ k ∧ k ≤ 7 := by simp at hlk hgk; omega
                go_wp2_with fail
                refine (hmay1.out hk17 wc (HT.out.le HLF.out)).mono ?_
                rintro e w4 ⟨rfl, hb⟩
                have BY2 := hide (BX2.out.below hb BX2.out.lt)
                have HL4 := hide (HLF.out.trans hb)
                clear hb a0 a1 a2 a3 a4 a5 a6 a7 a8 a9 m0 m1 m2 m3 m4 m5 m6 m7 m8 m9 f0 f1 f2 f3 f4 f5 f6 f7 f8 f9
                have m0 := BY2.out.cell 0 (.int .i64 fc) rfl
                have m1 := BY2.out.cell 1 (.bool fh) rfl
                have m2 := BY2.out.cell 2 (.bool fn) rfl
                have m3 := BY2.out.cell 3 (.int .i64 fi) rfl
                have m4 := BY2.out.cell 4 (.string fs) rfl
                have m5 := BY2.out.cell 5 (.bool gn) rfl
                have m6 := BY2.out.cell 6 (.int .i64 gi) rfl
                have m7 := BY2.out.cell 7 (.string gs) rfl
                have m8 := BY2.out.cell 8 (.int .i64 mu) rfl
                have m9 := BY2.out.cell 9 (.bool false) rfl
                go_wp2_with fail
                refine (hmayF.out hk17 w4 (HT.out.le HL4.out)).mono ?_
                rintro e w5 ⟨rfl, hb⟩
                have HL5 := hide (HL4.out.trans hb)
                clear hb
                go_wp2_with fail
                go_ret
                exact ⟨rfl, HL5.out⟩
              · go_wp2_with fail
                go_ret
                exact ⟨rfl, HLF.out⟩
            · go_wp2_with fail
              go_ret
              exact ⟨rfl, HLF.out⟩
          · have hw : w.heap.size ≤ ga := by have h1 := HG2.out; have h2 := HSB.out.1; omega
            go_upto_region 12 with fail
            obtain ⟨X, hX⟩ : ∃ X, (wc.setCell ⟨ga, 9, none⟩ (.bool fo)).setCell ⟨ga, 8, none⟩ (.int .i64 fu) = X := ⟨_, rfl⟩
            have bx2 : Box X ga #[.int .i64 fc, .bool fh, .bool fn, .int .i64 fi, .string fs, .bool gn, .int .i64 gi, .string gs, .int .i64 fu, .bool fo] 28 := by rw [← hX]; exact (BX2.out.set 9 _).set 8 _
            have hne : ga ≠ gb := by have h := GG.out; omega
            have bx3 : Box X gb #[.int .i64 fc, .bool fh, .bool fn, .int .i64 fi, .string fs, .bool gn, .int .i64 gi, .string gs, .int .i64 fu, .bool fo] 28 := by rw [← hX]; exact (BX3.out.other (by simp; omega) _).other (by simp; omega) _
            have HLX := hide (show Le w X by rw [← hX]; exact (HLF.out.setCell (by simp; omega) _).setCell (by simp; omega) _)
            rw [hX]
            clear hX z8 z9 a0 a1 a2 a3 a4 a5 a6 a7 a8 a9 m0 m1 m2 m3 m4 m5 m6 m7 m8 m9 f0 f1 f2 f3 f4 f5 f6 f7 f8 f9
            have m0 := bx2.cell 0 (.int .i64 fc) rfl
            have m1 := bx2.cell 1 (.bool fh) rfl
            have m2 := bx2.cell 2 (.bool fn) rfl
            have m3 := bx2.cell 3 (.int .i64 fi) rfl
            have m4 := bx2.cell 4 (.string fs) rfl
            have m5 := bx2.cell 5 (.bool gn) rfl
            have m6 := bx2.cell 6 (.int .i64 gi) rfl
            have m7 := bx2.cell 7 (.string gs) rfl
            have m8 := bx2.cell 8 (.int .i64 fu) rfl
            have m9 := bx2.cell 9 (.bool fo) rfl
            have f0 := bx3.cell 0 (.int .i64 fc) rfl
            have f1 := bx3.cell 1 (.bool fh) rfl
            have f2 := bx3.cell 2 (.bool fn) rfl
            have f3 := bx3.cell 3 (.int .i64 fi) rfl
            have f4 := bx3.cell 4 (.string fs) rfl
            have f5 := bx3.cell 5 (.bool gn) rfl
            have f6 := bx3.cell 6 (.int .i64 gi) rfl
            have f7 := bx3.cell 7 (.string gs) rfl
            have f8 := bx3.cell 8 (.int .i64 fu) rfl
            have f9 := bx3.cell 9 (.bool fo) rfl
            clear bx2 bx3
            go_wp2_with fail
            go_ret
            exact ⟨rfl, HLX.out⟩
#print axioms statsboth_walk
end Go.Proofs.YtdnkclbheimlcaaDoor
