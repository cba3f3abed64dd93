/-
  Fields of a shape, walked: by the program and by the document; single fields.
-/
import Derived.Test.YtjliocbdidiemaaDoorQP
import Derived.Test.YtjliocbdidiemaaDoorQRefT
import Derived.Deep.DeepCutAuto
namespace Go.Proofs.YtjliocbdidiemaaDoor
open Go.RowKit
set_option linter.unusedVariables false

theorem wnumber_any (w : World) (tag n : Int) :
    Calls Tryd.prog 32 #[.int .i64 tag, .int .i64 n] w fun e w' => e = .returned (.agg #[.int .i64 tag, .bool false, .int .u64 (IntKind.u64.wrap n), .slice none 0 0]) ∧ Below w.heap.size w w' := by
  go_enter Tryd.func32, Tryd.ntmps32
  go_wp2_with fail
  refine bodyPost_ret (box_results rfl _ (box_new w _ _) rfl Tryd.underlying49 rfl rfl) rfl ⟨rfl, (Below.refl _ _).alloc (Nat.le_refl _) _⟩
theorem refnum_any (w : World) (tag n : Int) :
    Calls Tryd.prog 37 #[.int .i64 tag, .int .u64 n] w fun e w' => e = .returned (.agg #[.int .i64 tag, .bool false, .int .u64 n, .slice none 0 0]) ∧ Below w.heap.size w w' := by
  go_enter Tryd.func37, Tryd.ntmps37
  go_wp2_with fail
  refine bodyPost_ret (box_results rfl _ (box_new w _ _) rfl Tryd.underlying54 rfl rfl) rfl ⟨rfl, (Below.refl _ _).alloc (Nat.le_refl _) _⟩
theorem refbit_any (w : World) (b : Bool) :
    Calls Tryd.prog 38 #[.bool b] w fun e w' => e = .returned (.int .u64 (bit b : Int)) ∧ w = w' := by
  cases b
  all_goals
    go_enter Tryd.func38, Tryd.ntmps38
    go_wp2_with fail
    go_ret
    exact ⟨rfl, rfl⟩
theorem equal_any (w : World) (A B : Option Addr) (n c m d : Nat) (l k : List Nat) (hl : l.length = n) (hk : k.length = m) (h8 : ∀ x ∈ l, x < 256) (k8 : ∀ x ∈ k, x < 256) (hr : Row w w.heap.size A (u8s l)) (hs : Row w w.heap.size B (u8s k)) :
    Calls Tryd.prog 25 #[.slice A n c, .slice B m d] w fun e w' => e = .returned (.bool (decide (l = k))) ∧ w = w' := by
  have c1 := conv8 w w.heap.size A n c l hl h8 hr
  have c2 := conv8 w w.heap.size B m d k hk k8 hs
  have he := str_beq h8 k8
  obtain ⟨b, hb⟩ : ∃ b, decide (l = k) = b := ⟨_, rfl⟩
  rw [hb] at he ⊢
  clear hr hs hl hk h8 k8 hb
  go_enter Tryd.func25, Tryd.ntmps25
  go_wp2_with fail
  go_ret
  exact ⟨rfl, rfl⟩

/-- What is asked of a pattern. -/
def Pat (s : ByteArray) (p : List Bool) : Prop := s.size = p.length ∧ ∀ (j : Nat) (b : Bool), p[j]? = some b → ∃ x : Int, (∀ W : World, (Instr.index 9 (.string s) (.int .i64 j)).run Tryd.prog W = .ok (.int .u8 x) W) ∧ (x == 98) = b
theorem pat3 : Pat ⟨#[110, 110, 98]⟩ [false, false, true] := by
  refine ⟨rfl, fun j b h => ?_⟩
  match j, h with
  | 0, h => exact ⟨110, fun W => by kernel_rfl, by cases h; rfl⟩
  | 1, h => exact ⟨110, fun W => by kernel_rfl, by cases h; rfl⟩
  | 2, h => exact ⟨98, fun W => by kernel_rfl, by cases h; rfl⟩
theorem pat6 : Pat ⟨#[110, 110, 98, 98, 110, 110]⟩ [false, false, true, true, false, false] := by
  refine ⟨rfl, fun j b h => ?_⟩
  match j, h with
  | 0, h => exact ⟨110, fun W => by kernel_rfl, by cases h; rfl⟩
  | 1, h => exact ⟨110, fun W => by kernel_rfl, by cases h; rfl⟩
  | 2, h => exact ⟨98, fun W => by kernel_rfl, by cases h; rfl⟩
  | 3, h => exact ⟨98, fun W => by kernel_rfl, by cases h; rfl⟩
  | 4, h => exact ⟨110, fun W => by kernel_rfl, by cases h; rfl⟩
  | 5, h => exact ⟨110, fun W => by kernel_rfl, by cases h; rfl⟩
/-- What shaped says of bytes. -/
def ShR (l : List Nat) (p : List Bool) (w : World) (e : Ending) (w' : World) : Prop :=
  ((wi.take l = none ∨ ∃ fs, wi.take l = some fs ∧ wi.shp 1 fs p = false) ∧ e = .returned (.tuple #[.slice none 0 0, .bool false]) ∧ Le w w') ∨
  (∃ (o : List FV) (A : Option Addr) (K c : Nat), wi.take l = some (o.map (·.1)) ∧ o.length = K ∧ wi.shp 1 (o.map (·.1)) p = true ∧ e = .returned (.tuple #[.slice A K c, .bool true]) ∧ Row w' w'.heap.size A (fcs o) ∧ Held w' w'.heap.size o ∧ (∀ p ∈ o, ∀ x ∈ p.1.b, x < 256) ∧ Le w w')

set_option maxRecDepth 100000 in
set_option maxHeartbeats 4000000 in
theorem shaped_any (w : World) (A : Option Addr) (n c : Nat) (l : List Nat) (s : ByteArray) (p : List Bool) (hl : l.length = n) (hn : n ≤ 1000000) (hnc : n ≤ c) (hc : c ≤ maxLen) (h8 : ∀ x ∈ l, x < 256) (hr : Row w w.heap.size A (u8s l)) (hp : Pat s p) (hpl : p.length ≤ 10) :
    Calls Tryd.prog 21 #[.slice A n c, .string s] w (ShR l p w) := by
  have HPI := hide hp.2
  have HPZ := hide hp.1
  obtain ⟨ps, hps⟩ : ∃ ps, s.size = ps := ⟨_, rfl⟩
  have HPL := hide (show p.length = ps by rw [← hps]; exact hp.1.symm)
  have hps10 : ps ≤ 10 := by have := HPL.out; omega
  have htk := hide (wtake_any w A n c l hl hn hnc hc h8 hr)
  clear hp hr h8 hl HPZ
  go_enter Tryd.func21, Tryd.ntmps21
  go_wp2_with fail
  refine htk.out.mono ?_
  rintro e w1 h
  rcases h with ⟨h1, rfl, hb⟩ | ⟨o, A1, K, c1, h1, hK, hKl, rfl, hr1, hh1, h81, hb⟩
  · go_wp2_with fail
    go_ret2
    exact .inl ⟨.inl h1, rfl, hb⟩
  · have HT := hide h1
    have HK := hide hK
    have HR1 := hide hr1
    have HH1 := hide hh1
    have H81 := hide h81
    have HB := hide hb
    clear h1 hK hr1 hh1 h81 hb
    obtain ⟨fs, hfs⟩ : ∃ fs, o.map (·.1) = fs := ⟨_, rfl⟩
    have HFS := hide hfs
    have HTK := hide (show wi.take l = some fs by rw [← hfs]; exact HT.out)
    have HFL := hide (show fs.length = K by rw [← hfs, List.length_map]; exact HK.out)
    clear hfs
    by_cases hKp : K = ps
    · subst hKp
      have hKK : ((K : Int) != K) = false := by simp
      obtain ⟨R, hR⟩ : ∃ R, wi.shp 1 fs p = R := ⟨_, rfl⟩
      have HRR := hide hR
      have HS0 := hide (show wi.shp (((0 : Nat) : Int) + 1) (fs.drop 0) (p.drop 0) = R by rw [List.drop_zero, List.drop_zero]; exact hR)
      clear hR
      go_wp2_with fail
      go_loopw [26] (fun i wr => ∃ j : Nat, i = .int .i64 j ∧ j ≤ K ∧ Hid (wi.shp ((j : Int) + 1) (fs.drop j) (p.drop j) = R) ∧ Hid (Le w1 wr)) (fun i _ => K - (intOf i).toNat)
      case atStart => exact ⟨0, rfl, Nat.zero_le _, HS0, hide (Le.refl _)⟩
      case round =>
        obtain ⟨j, rfl, hj, HSH, HLr⟩ := hrel
        by_cases hjn : j < K
        · obtain ⟨⟨f, fA, fc⟩, hf⟩ : ∃ f, o[j]? = some f := ⟨_, List.getElem?_eq_getElem (by rw [HK.out]; exact hjn)⟩
          obtain ⟨bA, oA, hA1, hbA, d0, d1, d2, d3⟩ := elem_cells HR1.out hf HLr.out (Nat.le_refl _)
          have hff : fs[j]? = some f := by rw [← HFS.out]; simp [hf]
          obtain ⟨b, hb⟩ : ∃ b, p[j]? = some b := ⟨_, List.getElem?_eq_getElem (by rw [HPL.out]; exact hjn)⟩
          obtain ⟨x, hx, hxb⟩ := HPI.out j b hb
          have HST := hide (wi.shp_step (i := (j : Int) + 1) hff hb)
          obtain ⟨ft, fB, fn, fb⟩ := f
          simp only at d0 d1 d2 d3 HST hA1
          subst hA1
          obtain ⟨nb, hnb⟩ : ∃ nb, fb.length = nb := ⟨_, rfl⟩
          rw [hnb] at d3
          have hjI : (j : Int) < K := by omega
          have HWJ := hide (show IntKind.i64.wrap ((j : Int) + 1) = (j : Int) + 1 by rw [IntKind.wrap_i64]; omega)
          have HX1 := hide hx
          have HXB := hide hxb
          clear hf hff hb hx hxb
          go_upto_region 7 with fail
          obtain ⟨X, hX, bX, hlX⟩ : ∃ X, wr.alloc (.cells #[.int .i64 ft, .bool fB, .int .u64 (fn : Int), .slice fA nb fc] 49) = X ∧ Box X wr.heap.size #[.int .i64 ft, .bool fB, .int .u64 (fn : Int), .slice fA nb fc] 49 ∧ Le wr X := ⟨_, rfl, box_new _ _ _, (Below.refl _ _).alloc (Nat.le_refl _) _⟩
          rw [hX]
          obtain ⟨V, hV⟩ : ∃ V, X.drew = V := ⟨_, rfl⟩
          have BV := hide (show Box V wr.heap.size _ _ by rw [← hV]; exact bX.drew)
          have HLV := hide (show Le w1 V by rw [← hV]; exact (HLr.out.trans hlX).drew)
          have HV := hide hV
          clear hX bX hlX hV d0 d1 d2 d3
          have g0 := BV.out.later 0 (.int .i64 ft) rfl
          have g1 := BV.out.later 1 (.bool fB) rfl
          have hx := HX1.out
          obtain ⟨a, ha⟩ : ∃ a, (ft != IntKind.i64.wrap ((j : Int) + 1)) = a := ⟨_, rfl⟩
          cases a
          · have htag : ft = (j : Int) + 1 := by rw [HWJ.out] at ha; simpa using ha
            obtain ⟨e, he⟩ : ∃ e, (x == 98) = e := ⟨_, rfl⟩
            have HD := hide (show wi.shp ((j : Int) + 1) (fs.drop j) (p.drop j) = ((fB == e) && wi.shp ((j : Int) + 1 + 1) (fs.drop (j + 1)) (p.drop (j + 1))) by
              rw [HST.out, decide_eq_true htag, Bool.true_and, ← he, HXB.out])
            clear HST HXB htag
            cases fB <;> cases e
            all_goals
              refine region_pi [(0, true), (1, true), (2, true), (3, true), (4, true), (5, true), (6, true), (7, true), (8, true), (9, true), (10, true), (11, true), (12, true), (13, true)] (by kernel_rfl) (by kernel_rfl) ?_
              simp only [opsPi, List.filterMap_cons, List.filterMap_nil, List.getElem?_toArray, List.getElem?_cons_zero, List.getElem?_cons_succ, Option.map_some]
              rw [HV.out]
              repeat (first | (refine pi_take (v := _) rfl (fun W hW => by go_simp <;> exact rfl) ?_; simp only [Act.put, List.setIfInBounds_toArray, List.set_cons_zero, List.set_cons_succ]) | (refine pi_skip rfl ?_; simp only [Act.put, List.setIfInBounds_toArray, List.set_cons_zero, List.set_cons_succ]))
              refine pi_done ?_
              first
              | (go_wp2_with fail
                 exact ⟨⟨j + 1, by go_num, by omega, hide (by have h := HD.out; rw [HSH.out] at h; exact h.symm), HLV⟩, by simp [intOf]; omega⟩)
              | (have hRf : R = false := by rw [← HSH.out, HD.out]; rfl
                 go_wp2_with fail
                 go_ret2
                 exact .inl ⟨.inr ⟨fs, HTK.out, by rw [HRR.out, hRf]⟩, rfl, HB.out.trans HLV.out⟩)
          · have hRf : R = false := by
              rw [← HSH.out, HST.out]
              have : ¬ ft = (j : Int) + 1 := by rw [HWJ.out] at ha; simpa using ha
              rw [decide_eq_false this]
              rfl
            refine region_pi [(0, true), (1, true), (2, true), (3, true), (4, true), (5, true), (6, true), (7, true), (8, true), (9, true), (10, true), (11, true), (12, true), (13, true)] (by kernel_rfl) (by kernel_rfl) ?_
            simp only [opsPi, List.filterMap_cons, List.filterMap_nil, List.getElem?_toArray, List.getElem?_cons_zero, List.getElem?_cons_succ, Option.map_some]
            rw [HV.out]
            repeat (first | (refine pi_take (v := _) rfl (fun W hW => by go_simp <;> exact rfl) ?_; simp only [Act.put, List.setIfInBounds_toArray, List.set_cons_zero, List.set_cons_succ]) | (refine pi_skip rfl ?_; simp only [Act.put, List.setIfInBounds_toArray, List.set_cons_zero, List.set_cons_succ]))
            refine pi_done ?_
            go_wp2_with fail
            go_ret2
            exact .inl ⟨.inr ⟨fs, HTK.out, by rw [HRR.out, hRf]⟩, rfl, HB.out.trans HLV.out⟩
        · obtain rfl : j = K := by omega
          have hRt : R = true := by
            rw [← HSH.out, List.drop_eq_nil_of_le (by rw [HFL.out]; exact Nat.le_refl _), List.drop_eq_nil_of_le (by rw [HPL.out]; exact Nat.le_refl _)]
            rfl
          go_wp2_with fail
          go_ret2
          exact .inr ⟨o, _, _, _, HT.out, HK.out, by rw [HFS.out, HRR.out, hRt], rfl, (HR1.out.below HLr.out (Nat.le_refl _)).more HLr.out.size, HH1.out.le HLr.out, H81.out, HB.out.trans HLr.out⟩
    · have hKK : ((K : Int) != ps) = true := by simp; omega
      go_wp2_with fail
      go_ret2
      exact .inl ⟨.inr ⟨fs, HTK.out, by cases hs : wi.shp 1 fs p with | false => rfl | true => exact absurd ((HFL.out.symm.trans (wi.shp_len hs)).trans HPL.out) hKp⟩, rfl, HB.out⟩
#print axioms shaped_any

set_option maxRecDepth 100000 in
set_option maxHeartbeats 4000000 in
theorem refshape_any (w : World) (A : Option Addr) (n c : Nat) (o : List FV) (fs : List Fld) (B : Option Addr) (m d : Nat) (p : List Bool) (hfs : o.map (·.1) = fs) (hl : o.length = n) (hn : n ≤ 1000000) (hr : Row w w.heap.size A (fcs o)) (hp : p.length = m) (hm : m ≤ 1000) (hs : Row w w.heap.size B (p.map Value.bool)) :
    Calls Tryd.prog 23 #[.slice A n c, .slice B m d] w fun e w' => e = .returned (.bool (wi.shp 1 fs p)) ∧ Le w w' := by
  obtain ⟨R, hR⟩ : ∃ R, wi.shp 1 fs p = R := ⟨_, rfl⟩
  rw [hR]
  have HRR := hide hR
  have HK := hide hl
  have HPL := hide hp
  have HFS := hide hfs
  have HFL := hide (show fs.length = n by rw [← hfs, List.length_map]; exact hl)
  have HR1 := hide hr
  have HS1 := hide hs
  have HS0 := hide (show wi.shp (((0 : Nat) : Int) + 1) (fs.drop 0) (p.drop 0) = R by rw [List.drop_zero, List.drop_zero]; exact hR)
  clear hR hfs hl hp hr hs
  go_enter Tryd.func23, Tryd.ntmps23
  by_cases hnm : n = m
  · subst hnm
    have hKK : ((n : Int) != n) = false := by simp
    go_wp2_with fail
    go_loopw [5] (fun i wr => ∃ j : Nat, i = .int .i64 j ∧ j ≤ n ∧ Hid (wi.shp ((j : Int) + 1) (fs.drop j) (p.drop j) = R) ∧ Hid (Le w wr)) (fun i _ => n - (intOf i).toNat)
    case atStart => exact ⟨0, rfl, Nat.zero_le _, HS0, hide (Le.refl _)⟩
    case round =>
      obtain ⟨j, rfl, hj, HSH, HLr⟩ := hrel
      by_cases hjn : j < n
      · obtain ⟨⟨f, fA, fc⟩, hf⟩ : ∃ f, o[j]? = some f := ⟨_, List.getElem?_eq_getElem (by rw [HK.out]; exact hjn)⟩
        have hff : fs[j]? = some f := by rw [← HFS.out]; simp [hf]
        obtain ⟨b, hb⟩ : ∃ b, p[j]? = some b := ⟨_, List.getElem?_eq_getElem (by rw [HPL.out]; exact hjn)⟩
        obtain ⟨bB, oB, rfl, hbB, cb⟩ := HS1.out.at_ (show (p.map Value.bool)[j]? = some (.bool b) by simp [hb])
        have HST := hide (wi.shp_step (i := (j : Int) + 1) hff hb)
        obtain ⟨V, hV⟩ : ∃ V, wr.drew = V := ⟨_, rfl⟩
        have HLV := hide (show Le w V by rw [← hV]; exact HLr.out.drew)
        have HV := hide hV
        obtain ⟨bA, oA, hA1, hbA, d0, d1, -, -⟩ := elem_cells HR1.out hf (Below.refl w.heap.size w) (Nat.le_refl _)
        obtain ⟨ft, fB, fn, fb⟩ := f
        simp only at d0 d1 HST hA1
        subst hA1
        have g0 : ∀ W, Le V W → W.cell? ⟨bA, oA + j * 4, none⟩ = some (.int .i64 ft) := fun W h => ((HLV.out.trans h).cell (p := ⟨bA, oA + j * 4, none⟩) hbA).trans d0
        have g1 : ∀ W, Le V W → W.cell? ⟨bA, oA + j * 4 + 1, none⟩ = some (.bool fB) := fun W h => ((HLV.out.trans h).cell (p := ⟨bA, oA + j * 4 + 1, none⟩) hbA).trans d1
        have g2 : ∀ W, Le V W → W.cell? ⟨bB, oB + j, none⟩ = some (.bool b) := fun W h => ((HLV.out.trans h).cell (p := ⟨bB, oB + j, none⟩) hbB).trans cb
        have hjI : (j : Int) < n := by omega
        have HWJ := hide (show IntKind.i64.wrap ((j : Int) + 1) = (j : Int) + 1 by rw [IntKind.wrap_i64]; omega)
        clear hf hff hb hV d0 d1 cb
        obtain ⟨a, ha⟩ : ∃ a, (ft != IntKind.i64.wrap ((j : Int) + 1)) = a := ⟨_, rfl⟩
        cases a
        · have htag : ft = (j : Int) + 1 := by rw [HWJ.out] at ha; simpa using ha
          have HD := hide (show wi.shp ((j : Int) + 1) (fs.drop j) (p.drop j) = ((fB == b) && wi.shp ((j : Int) + 1 + 1) (fs.drop (j + 1)) (p.drop (j + 1))) by
            rw [HST.out, decide_eq_true htag, Bool.true_and])
          clear HST htag
          go_upto_region 6 with fail
          cases fB <;> cases b
          all_goals
            refine region_pi [(0, true), (1, true), (2, true), (3, true), (4, true), (5, true), (6, true), (7, true), (8, true), (9, true), (10, true), (11, true), (12, true), (13, true), (14, true), (15, true), (16, true), (17, true), (18, true), (19, true)] (by kernel_rfl) (by kernel_rfl) ?_
            simp only [opsPi, List.filterMap_cons, List.filterMap_nil, List.getElem?_toArray, List.getElem?_cons_zero, List.getElem?_cons_succ, Option.map_some]
            rw [HV.out]
            repeat (first | (refine pi_take (v := _) rfl (fun W hW => by go_simp <;> exact rfl) ?_; simp only [Act.put, List.setIfInBounds_toArray, List.set_cons_zero, List.set_cons_succ]) | (refine pi_skip rfl ?_; simp only [Act.put, List.setIfInBounds_toArray, List.set_cons_zero, List.set_cons_succ]))
            refine pi_done ?_
            first
            | (go_wp2_with fail
               exact ⟨⟨j + 1, by go_num, by omega, hide (by have h := HD.out; rw [HSH.out] at h; exact h.symm), HLV⟩, by simp [intOf]; omega⟩)
            | (have hRf : R = false := by rw [← HSH.out, HD.out]; rfl
               go_wp2_with fail
               go_ret
               exact ⟨by rw [hRf]; rfl, HLV.out⟩)
        · have hRf : R = false := by
            rw [← HSH.out, HST.out]
            have : ¬ ft = (j : Int) + 1 := by rw [HWJ.out] at ha; simpa using ha
            rw [decide_eq_false this]
            rfl
          go_upto_region 6 with fail
          refine region_pi [(0, true), (1, true), (2, true), (3, true), (4, true), (5, true), (6, true), (7, true), (8, true), (9, true), (10, true), (11, true), (12, true), (13, true), (14, true), (15, true), (16, true), (17, true), (18, true), (19, true)] (by kernel_rfl) (by kernel_rfl) ?_
          simp only [opsPi, List.filterMap_cons, List.filterMap_nil, List.getElem?_toArray, List.getElem?_cons_zero, List.getElem?_cons_succ, Option.map_some]
          rw [HV.out]
          repeat (first | (refine pi_take (v := _) rfl (fun W hW => by go_simp <;> exact rfl) ?_; simp only [Act.put, List.setIfInBounds_toArray, List.set_cons_zero, List.set_cons_succ]) | (refine pi_skip rfl ?_; simp only [Act.put, List.setIfInBounds_toArray, List.set_cons_zero, List.set_cons_succ]))
          refine pi_done ?_
          go_wp2_with fail
          go_ret
          exact ⟨by rw [hRf]; rfl, HLV.out⟩
      · obtain rfl : j = n := by omega
        have hRt : R = true := by
          rw [← HSH.out, List.drop_eq_nil_of_le (by rw [HFL.out]; exact Nat.le_refl _), List.drop_eq_nil_of_le (by rw [HPL.out]; exact Nat.le_refl _)]
          rfl
        go_wp2_with fail
        go_ret
        exact ⟨by rw [hRt]; rfl, HLr.out⟩
  · have hKK : ((n : Int) != m) = true := by simp; omega
    have hRf : R = false := by
      rw [← HRR.out]
      cases hs : wi.shp 1 fs p with
      | false => rfl
      | true => exact absurd ((HFL.out.symm.trans (wi.shp_len hs)).trans HPL.out) hnm
    go_wp2_with fail
    go_ret
    exact ⟨by rw [hRf]; rfl, Le.refl _⟩
#print axioms refshape_any
end Go.Proofs.YtjliocbdidiemaaDoor
