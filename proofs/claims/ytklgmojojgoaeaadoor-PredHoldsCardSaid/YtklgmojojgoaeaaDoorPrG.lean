/-
  The law on what predicates come to, walked.
-/
import Derived.Test.YtklgmojojgoaeaaDoorPrE
import Derived.Test.YtklgmojojgoaeaaDoorPrF
namespace Go.Proofs.YtklgmojojgoaeaaDoor
open Go.RowKit
set_option linter.unusedVariables false

/-- A row that came in: where it lies, its values. -/
structure Rw where
  rA : Option Addr
  rn : Nat
  rc : Nat
  vals : List va.Val
def rcs (l : List Rw) : List Value := l.map fun r => .slice r.rA r.rn r.rc
theorem rcs_at {l : List Rw} {k : Nat} {r : Rw} (h : l[k]? = some r) : (rcs l)[k]? = some (.slice r.rA r.rn r.rc) := by simp [rcs, h]
def RHas (w : World) (B : Nat) (r : Rw) : Prop := r.vals.length = r.rn ∧ r.rn ≤ 9223372036854775807 ∧ Row w B r.rA (vcs r.vals) ∧ ∀ v ∈ r.vals, v.s.size ≤ 9223372036854775807
theorem row_zero {l : List va.Col} {r : List va.Val} (h : va.rowV l r = 0) : l.length = r.length := by
  unfold va.rowV at h
  split at h
  · rename_i h1; exact h1.1
  · cases h

set_option maxRecDepth 100000 in
set_option maxHeartbeats 4000000 in
theorem predevals_walk (w : World) (A : Option Addr) (n c : Nat) (cols : List va.Col) (hl : cols.length = n) (hn : n ≤ 9223372036854775807) (hs : ∀ c ∈ cols, c.name.size ≤ 9223372036854775807) (hr : Row w w.heap.size A (ccs cols))
    (A' : Option Addr) (n' c' : Nat) (l : List pr.Nd) (hl' : l.length = n') (hnc' : n' ≤ c') (hr' : Row w w.heap.size A' (ncs l)) (hh : ∀ n ∈ l, Has w w.heap.size n)
    (A2 : Option Addr) (n2 c2 : Nat) (rows : List Rw) (hl2 : rows.length = n2) (hn2 : n2 ≤ 9223372036854775807) (hr2 : Row w w.heap.size A2 (rcs rows)) (hh2 : ∀ r ∈ rows, RHas w w.heap.size r) (hT : Tabs8 w) :
    Calls Tryd.prog 3 #[.slice A n c, .slice A' n' c', .slice A2 n2 c2] w fun e w' => e = .returned (.bool true) ∧ Below w.heap.size w w' := by
  have HL := hide hl
  have HS := hide hs
  have HR := hide hr
  have HL2 := hide hl2
  have HR2 := hide hr2
  have HH2 := hide hh2
  have HT := hide hT
  have hfw := hide (fun (w1 : World) (hb : Below w.heap.size w w1) => few_any w1 A' n' c' l hl' hnc' ((Le.row hb hr' (Nat.le_refl _)).more hb.size) (fun n hn => ((hh n hn).on hb (Nat.le_refl _)).more hb.size))
  clear hl hs hr hl' hr' hh hl2 hr2 hh2 hT
  go_enter Tryd.func3, Tryd.ntmps3
  go_wp2_with fail
  refine (shown_any w).mono ?_
  rintro e w1 ⟨rfl, hb1⟩
  have HB1 := hide (show Le w w1 from hb1)
  have hf1 := hfw.out w1 hb1
  clear hb1 hfw
  have HFW := hide hf1
  clear hf1
  go_wp2_with fail
  refine HFW.out.mono ?_
  rintro e w' ⟨⟨p, pc, l', rfl, hpl, hp45, hppc, hpr, hph⟩, rfl⟩
  have HPL := hide hpl
  have HPR := hide hpr
  have HPH := hide hph
  clear hpl hpr hph HFW
  go_wp2_with fail
  refine (refmay_any w1 A n c cols HL.out hn ((HB1.out.row HR.out (Nat.le_refl _)).more HB1.out.size) A' p pc l' HPL.out (by omega) HPR.out HPH.out (HT.out.le HB1.out)).mono ?_
  rintro e w2 ⟨rfl, hb⟩
  have HB2 := hide (show Le w w2 from HB1.out.trans hb)
  have HPR2 := hide ((Le.row hb HPR.out (Nat.le_refl _)).more hb.size)
  have HPH2 := hide (fun n hn => ((HPH.out n hn).on hb (Nat.le_refl _)).more hb.size)
  obtain ⟨my, hmy⟩ : ∃ b, pr.mayP cols l' = b := ⟨_, rfl⟩
  rw [hmy]
  clear hb HPR HPH
  cases my
  · go_wp2_with fail
    go_ret
    exact ⟨rfl, HB2.out⟩
  · have HMF := hide (pr.may_fine hmy)
    clear hmy
    go_wp2_with fail
    refine (refschema_any w2 A n c cols HL.out hn HS.out ((HB2.out.row HR.out (Nat.le_refl _)).more HB2.out.size)).mono ?_
    rintro e w3 ⟨rfl, hb⟩
    have HB3 := hide (show Le w w3 from HB2.out.trans hb)
    have HPR3 := hide ((Le.row hb HPR2.out (Nat.le_refl _)).more hb.size)
    have HPH3 := hide (fun n hn => ((HPH2.out n hn).on hb (Nat.le_refl _)).more hb.size)
    obtain ⟨sv, hsv⟩ : ∃ s, va.schemaV cols = s := ⟨_, rfl⟩
    rw [hsv]
    obtain ⟨sb, hsb⟩ : ∃ b, (sv != 0) = b := ⟨_, rfl⟩
    clear hb HPR2 HPH2 hsv
    cases sb
    · go_wp2_with fail
      go_loopw [9] (fun i wr => ∃ j : Nat, i = .int .i64 j ∧ j ≤ n2 ∧ j ≤ 20 ∧ Hid (Le w3 wr)) (fun i _ => n2 - (intOf i).toNat)
      case atStart => exact ⟨0, rfl, Nat.zero_le _, by omega, hide (Below.refl _ _)⟩
      case round =>
        obtain ⟨j, rfl, hj, hj20, HLr⟩ := hrel
        have HBr := hide (show Le w wr from HB3.out.trans HLr.out)
        by_cases hp : j < n2
        · by_cases hp2 : j < 20
          · obtain ⟨r, hr⟩ : ∃ r, rows[j]? = some r := ⟨_, List.getElem?_eq_getElem (by rw [HL2.out]; exact hp)⟩
            obtain ⟨bR, oR, rfl, hbR, cr⟩ := HR2.out.at_ (rcs_at hr)
            have HRH := hide (HH2.out r (List.mem_of_getElem? hr))
            have hnj : (j : Int) < n2 := by omega
            have hnj2 : decide ((j : Int) < 20) = true := decide_eq_true (by omega)
            obtain ⟨V, hV⟩ : ∃ V, wr.drew = V := ⟨_, rfl⟩
            have HLV := hide (show Le w3 V by rw [← hV]; exact HLr.out.drew)
            have HBV := hide (show Le w V from HB3.out.trans HLV.out)
            have e0 : ∀ W, Le V W → W.cell? ⟨bR, oR + j, none⟩ = some (.slice r.rA r.rn r.rc) := fun W h => ((HBV.out.trans h).cell (p := ⟨bR, oR + j, none⟩) hbR).trans cr
            have HV := hide hV
            obtain ⟨rv, hrv⟩ : ∃ x, va.rowV cols r.vals = x := ⟨_, rfl⟩
            have hrw := hide (fun (W : World) (hb : Le w W) => hrv ▸ refrow_any W A n c cols HL.out hn ((Le.row hb HR.out (Nat.le_refl _)).more hb.size) r.rA r.rn r.rc r.vals HRH.out.1 HRH.out.2.1 HRH.out.2.2.2 ((Le.row hb HRH.out.2.2.1 (Nat.le_refl _)).more hb.size) (HT.out.le hb))
            obtain ⟨z, hz⟩ : ∃ b, (rv == 0) = b := ⟨_, rfl⟩
            clear cr hr hV
            cases z
            · clear hrv
              go_wp2_with fail
              refine region_pi [(0, true), (1, true), (2, true), (3, true), (4, true), (5, false), (6, true), (7, true), (8, true), (9, true), (10, true), (11, true), (12, true), (13, true), (14, true), (15, true), (16, true), (17, true), (18, true), (19, true), (20, true), (21, true)] (by kernel_rfl) (by kernel_rfl) ?_
              simp only [opsPi, List.filterMap_cons, List.filterMap_nil, List.getElem?_toArray, List.getElem?_cons_zero, List.getElem?_cons_succ, Option.map_some]
              rw [HV.out]
              repeat (first | (refine pi_take (v := _) rfl (fun W hW => by go_simp <;> exact rfl) ?_; simp only [Act.put, List.setIfInBounds_toArray, List.set_cons_zero, List.set_cons_succ]) | (refine pi_skip rfl ?_; simp only [Act.put, List.setIfInBounds_toArray, List.set_cons_zero, List.set_cons_succ]))
              refine pi_run ?_
              go_wp2_with fail
              refine (hrw.out V HBV.out).mono ?_
              rintro e V1 ⟨rfl, hb⟩
              have HL1 := hide (show Le w3 V1 from HLV.out.trans hb)
              go_wp2_with fail
              refine ⟨hb, ?_⟩
              clear hb e0
              repeat (first | (refine pi_take (v := _) rfl (fun W hW => by go_simp <;> exact rfl) ?_; simp only [Act.put, List.setIfInBounds_toArray, List.set_cons_zero, List.set_cons_succ]) | (refine pi_skip rfl ?_; simp only [Act.put, List.setIfInBounds_toArray, List.set_cons_zero, List.set_cons_succ]))
              refine pi_done ?_
              go_wp2_with fail
              exact ⟨⟨j + 1, by go_num, by omega, by omega, HL1⟩, by simp [intOf]; omega⟩
            · have hr0 : rv = 0 := by simpa using hz
              have hlen : cols.length = r.vals.length := row_zero (by rw [hrv, hr0])
              have hev := hide (fun (W : World) (hb : Le w3 W) => eval_any W A' p pc l' r.rA r.rn r.rc r.vals HPL.out (by have := HMF.out.1; rw [HPL.out] at this; omega) ((Le.row hb HPR3.out (Nat.le_refl _)).more hb.size) (fun n hn => ((HPH3.out n hn).on hb (Nat.le_refl _)).more hb.size) HRH.out.1 HRH.out.2.1 (((HB3.out.trans hb).row HRH.out.2.2.1 (Nat.le_refl _)).more (HB3.out.trans hb).size) (fun j n hn => by have := HMF.out.2.2 j n hn; rwa [hlen, HRH.out.1] at this))
              have hrev := hide (fun (W : World) (hb : Le w3 W) => refeval_any W A' p pc l' r.rA r.rn r.rc r.vals HPL.out (by have := HMF.out.1; rw [HPL.out] at this; omega) ((Le.row hb HPR3.out (Nat.le_refl _)).more hb.size) (fun n hn => ((HPH3.out n hn).on hb (Nat.le_refl _)).more hb.size) HRH.out.1 HRH.out.2.1 (((HB3.out.trans hb).row HRH.out.2.2.1 (Nat.le_refl _)).more (HB3.out.trans hb).size) (fun j n hn => by have := HMF.out.2.2 j n hn; rwa [hlen, HRH.out.1] at this))
              obtain ⟨x, hx⟩ : ∃ x, pr.evalV l' r.vals = x := ⟨_, rfl⟩
              rw [hx] at hev hrev
              have hxx : (x != x) = false := by simp
              clear hrv hx hlen hr0
              go_wp2_with fail
              refine region_pi [(0, true), (1, true), (2, true), (3, true), (4, true), (5, false), (6, true), (7, true), (8, true), (9, true), (10, true), (11, true), (12, true), (14, true), (15, true), (16, true), (17, true), (18, true), (13, false), (19, false), (20, true), (21, true)] (by kernel_rfl) (by kernel_rfl) ?_
              simp only [opsPi, List.filterMap_cons, List.filterMap_nil, List.getElem?_toArray, List.getElem?_cons_zero, List.getElem?_cons_succ, Option.map_some]
              rw [HV.out]
              repeat (first | (refine pi_take (v := _) rfl (fun W hW => by go_simp <;> exact rfl) ?_; simp only [Act.put, List.setIfInBounds_toArray, List.set_cons_zero, List.set_cons_succ]) | (refine pi_skip rfl ?_; simp only [Act.put, List.setIfInBounds_toArray, List.set_cons_zero, List.set_cons_succ]))
              refine pi_run ?_
              go_wp2_with fail
              refine (hrw.out V HBV.out).mono ?_
              rintro e V1 ⟨rfl, hb⟩
              have HL1 := hide (show Le w3 V1 from HLV.out.trans hb)
              go_wp2_with fail
              refine ⟨hb, ?_⟩
              have e1 : ∀ W, Le V1 W → W.cell? ⟨bR, oR + j, none⟩ = some (.slice r.rA r.rn r.rc) := fun W h => e0 W ((show Le V V1 from hb).trans h)
              clear hb e0
              repeat (first | (refine pi_take (v := _) rfl (fun W hW => by go_simp <;> exact rfl) ?_; simp only [Act.put, List.setIfInBounds_toArray, List.set_cons_zero, List.set_cons_succ]) | (refine pi_skip rfl ?_; simp only [Act.put, List.setIfInBounds_toArray, List.set_cons_zero, List.set_cons_succ]))
              refine pi_run ?_
              go_wp2_with fail
              refine (hev.out V1 HL1.out).mono ?_
              rintro e V2 ⟨rfl, hb⟩
              have HL2' := hide (show Le w3 V2 from HL1.out.trans hb)
              go_wp2_with fail
              refine ⟨hb, ?_⟩
              clear hb e1
              repeat (first | (refine pi_take (v := _) rfl (fun W hW => by go_simp <;> exact rfl) ?_; simp only [Act.put, List.setIfInBounds_toArray, List.set_cons_zero, List.set_cons_succ]) | (refine pi_skip rfl ?_; simp only [Act.put, List.setIfInBounds_toArray, List.set_cons_zero, List.set_cons_succ]))
              refine pi_run ?_
              go_wp2_with fail
              refine (hrev.out V2 HL2'.out).mono ?_
              rintro e V3 ⟨rfl, hb⟩
              have HL3' := hide (show Le w3 V3 from HL2'.out.trans hb)
              go_wp2_with fail
              refine ⟨hb, ?_⟩
              clear hb
              repeat (first | (refine pi_take (v := _) rfl (fun W hW => by go_simp <;> exact rfl) ?_; simp only [Act.put, List.setIfInBounds_toArray, List.set_cons_zero, List.set_cons_succ]) | (refine pi_skip rfl ?_; simp only [Act.put, List.setIfInBounds_toArray, List.set_cons_zero, List.set_cons_succ]))
              refine pi_done ?_
              go_wp2_with fail
              exact ⟨⟨j + 1, by go_num, by omega, by omega, HL3'⟩, by simp [intOf]; omega⟩
          · have hnj : (j : Int) < n2 := by omega
            have hnj2 : decide ((j : Int) < 20) = false := decide_eq_false (by omega)
            go_wp2_with fail
            go_ret
            exact ⟨rfl, HBr.out⟩
        · obtain rfl : j = n2 := by omega
          go_wp2_with fail
          go_ret
          exact ⟨rfl, HBr.out⟩
    · go_wp2_with fail
      go_ret
      exact ⟨rfl, HB3.out⟩
#print axioms predevals_walk
end Go.Proofs.YtklgmojojgoaeaaDoor
