/-
  The document's plan of directories, walked.
-/
import Derived.Test.YtnihladjafnjpaaPlR
import Derived.Test.YtnihladjafnjpaaPlG
namespace Go.Proofs.Ytnihladjafnjpaa
open Go.RowKit
set_option linter.unusedVariables false

/-- Whether something holds of one of the ids from 1 on. -/
def anyTo (P : Int → Bool) : Nat → Bool
  | 0 => false
  | k + 1 => anyTo P k || P ((k : Int) + 1)
theorem anyTo_true {P : Int → Bool} : ∀ {h : Nat}, anyTo P h = true → ∃ j : Nat, j < h ∧ P ((j : Int) + 1) = true
  | 0, h => by cases h
  | k + 1, h => by
    unfold anyTo at h
    rw [Bool.or_eq_true] at h
    rcases h with h | h
    · obtain ⟨j, h1, h2⟩ := anyTo_true h
      exact ⟨j, by omega, h2⟩
    · exact ⟨k, by omega, h⟩
theorem anyTo_false {P : Int → Bool} : ∀ {h : Nat}, anyTo P h = false → ∀ j : Nat, j < h → P ((j : Int) + 1) = false
  | 0, _, j, hj => by omega
  | k + 1, h, j, hj => by
    unfold anyTo at h
    rw [Bool.or_eq_false_iff] at h
    by_cases hjk : j < k
    · exact anyTo_false h.1 j hjk
    · obtain rfl : j = k := by omega
      exact h.2
theorem all_anyTo {P : Int → Bool} {h : Nat} {s : List Int} {f : Int → Int → Bool} (hP : ∀ id, P id = true → id ≤ (h : Int)) (hs : h ≤ s.length) (hf : ∀ id st, f id st = !P id) : allI f s = !anyTo P h := by
  cases e : anyTo P h with
  | false =>
    refine allI_true fun k x hx => ?_
    rw [hf]
    by_cases hk : k < h
    · rw [anyTo_false e k hk]; rfl
    · cases hp : P ((k : Int) + 1) with
      | false => rfl
      | true => have := hP _ hp; omega
  | true =>
    obtain ⟨j, h1, h2⟩ := anyTo_true e
    have hj : s[j]? = some (s[j]'(by omega)) := List.getElem?_eq_getElem (by omega)
    exact allI_false hj (by rw [hf, h2]; rfl)
theorem has_le {H : Int} {l : List Int} {x : Int} (h : has H l x = true) : 1 ≤ x ∧ x ≤ H := by
  unfold has at h
  simp only [Bool.and_eq_true, decide_eq_true_eq] at h
  exact h.1
theorem anyTo_one {P : Int → Bool} {h j : Nat} (hj : j < h) (hp : P ((j : Int) + 1) = true) : anyTo P h = true := by
  cases e : anyTo P h with
  | true => rfl
  | false => rw [anyTo_false e j hj] at hp; cases hp
def seenP (H : Int) (l : List Int) (d : dr.Dr) (id : Int) : Bool := has H l id && inD d id
def lackP (H : Int) (l : List Int) (c : List dr.Dr) (id : Int) : Bool := has H l id && !(c.any fun d => inD d id)
theorem useless_seen {H : Int} {l s : List Int} {h : Nat} (hH : H = (h : Int)) (hs : h ≤ s.length) (d : dr.Dr) : (!useless H l s d) = ((d.k == 1) && servesI d.t H l s || (d.k == 2) && anyTo (seenP H l d) h) := by
  have ha : allI (okU H l d) s = !anyTo (seenP H l d) h := all_anyTo (fun id hp => by
    unfold seenP at hp
    rw [Bool.and_eq_true] at hp
    have := (has_le hp.1).2
    omega) hs (fun id st => by unfold okU seenP; cases has H l id <;> cases inD d id <;> rfl)
  unfold useless
  rw [ha]
  by_cases h1 : d.k = 1
  · rw [if_pos h1]
    simp [h1]
  · rw [if_neg h1]
    by_cases h2 : d.k = 2
    · rw [if_pos h2]; simp [h2]
    · rw [if_neg h2]; simp [h1, h2]
theorem okC_lack {H : Int} {l s : List Int} {h : Nat} (hH : H = (h : Int)) (hs : h ≤ s.length) (c : List dr.Dr) : allI (okC H l c) s = !anyTo (lackP H l c) h :=
  all_anyTo (fun id hp => by
    unfold lackP at hp
    rw [Bool.and_eq_true] at hp
    have := (has_le hp.1).2
    omega) hs (fun id st => by unfold okC lackP; cases has H l id <;> cases (c.any fun d => inD d id) <;> rfl)
theorem chain_len {l : List dr.Dr} {most : Int} {n : Int} {o : List dr.Dr} (h : dr.Chain l most n o) : o.length ≤ cnt l n := by
  induction h with
  | done _ => exact Nat.zero_le _
  | more h _ ih =>
    have := cnt_lt h.1 h.2.2.1 (dr.may_facts (dr.cand_iff.1 h.2.1).2.1).2.2.1
    simp only [List.length_cons]
    omega
theorem chosen_len {l : List dr.Dr} {most : Int} {o : List dr.Dr} (h : dr.Chosen l most o) : o.length ≤ l.length + 1 := by
  rcases h with ⟨-, h⟩ | ⟨d, o', -, rfl, h⟩
  · have := chain_len h
    have := cnt_le l 0
    omega
  · have := chain_len h
    have := cnt_le l d.t
    simp only [List.length_cons]
    omega
/-- What is planned. -/
def Planned (H : Int) (l s : List Int) (ds o : List dr.Dr) (code : Int) : Prop :=
  (checkI H l s = 30 ∧ o = [] ∧ code = 30) ∨ (checkI H l s = 0 ∧ ∃ c, dr.Chosen (ds.filter fun d => !useless H l s d) H c ∧
    ((allI (okC H l c) s = true ∧ o = c ∧ code = 0) ∨ (allI (okC H l c) s = false ∧ o = [] ∧ code = 31)))
theorem planned_one {H : Int} {l s : List Int} {ds o o' : List dr.Dr} {code code' : Int} (h : Planned H l s ds o code) (h' : Planned H l s ds o' code') : o = o' ∧ code = code' := by
  rcases h with ⟨h1, rfl, rfl⟩ | ⟨h1, c, h2, h3⟩
  · rcases h' with ⟨k1, rfl, rfl⟩ | ⟨k1, c', k2, k3⟩
    · exact ⟨rfl, rfl⟩
    · omega
  · rcases h' with ⟨k1, rfl, rfl⟩ | ⟨k1, c', k2, k3⟩
    · omega
    · obtain rfl := dr.chosen_one h2 k2
      rcases h3 with ⟨h3, rfl, rfl⟩ | ⟨h3, rfl, rfl⟩ <;> rcases k3 with ⟨k3, rfl, rfl⟩ | ⟨k3, rfl, rfl⟩
      · exact ⟨rfl, rfl⟩
      · rw [h3] at k3; cases k3
      · rw [h3] at k3; cases k3
      · exact ⟨rfl, rfl⟩
theorem check_facts {H : Int} {l s : List Int} (h : checkI H l s = 0) : ∃ h : Nat, H = (h : Int) ∧ h ≤ s.length ∧ h ≤ 1073741824 := by
  unfold checkI at h
  split at h
  · rename_i hc
    simp only [Bool.and_eq_true, decide_eq_true_eq] at hc
    obtain ⟨⟨hm, hh⟩, -⟩ := hc
    by_cases h0 : 0 ≤ H ∧ H ≤ 1073741824
    · exact ⟨H.toNat, by omega, by omega, by omega⟩
    · rw [may_out h0] at hm; cases hm
  · omega
theorem check_two (H : Int) (l s : List Int) : checkI H l s = 0 ∨ checkI H l s = 30 := by
  unfold checkI
  split
  · exact .inl rfl
  · exact .inr rfl
theorem filter_snoc {l : List dr.Dr} {j : Nat} {u : dr.Dr} {p : dr.Dr → Bool} (h : l[j]? = some u) : (l.take (j + 1)).filter p = if p u then (l.take j).filter p ++ [u] else (l.take j).filter p := by
  rw [take_snoc h, List.filter_append]
  cases e : p u
  · simp [e]
  · simp [e]

set_option maxRecDepth 100000 in
set_option maxHeartbeats 8000000 in
theorem refplan_any (w : World) (DA A B : Option Addr) (dn dc n c m d : Nat) (ds : List dr.Dr) (H : Int) (l s : List Int) (hd : ds.length = dn) (hdn : dn ≤ 1000) (hl : l.length = n) (hn : n ≤ 1000000000) (hnc : n ≤ c) (hs : s.length = m) (hm : m ≤ 1000000000)
    (hrd : Row w w.heap.size DA (dcs ds)) (hr : Row w w.heap.size A (ints l)) (hrs : Row w w.heap.size B (ints s)) :
    Calls Try.prog 19 #[.slice DA dn dc, .agg #[.int .i64 H, .slice A n c], .slice B m d] w fun e w' => ∃ (C : Option Addr) (k cc : Nat) (o : List dr.Dr) (code : Int),
      e = .returned (.tuple #[.slice C k cc, .int .i64 code]) ∧ o.length = k ∧ k ≤ 1001 ∧ Planned H l s ds o code ∧ Row w' w'.heap.size C (dcs o) ∧ Below w.heap.size w w' := by
  obtain ⟨W, hW, bx, hb⟩ : ∃ W, w.alloc (.cells #[.int .i64 H, .slice A n c] 24) = W ∧ Box W w.heap.size #[.int .i64 H, .slice A n c] 24 ∧ Le w W := ⟨_, rfl, box_new _ _ _, (Below.refl _ _).alloc (Nat.le_refl _) _⟩
  have HW := hide hW
  have HB := hide hb
  have BX := hide bx
  have HD := hide hd
  have HRD := hide hrd
  have hck := hide (fun (X : World) (h : Le w X) => refcheck_any X H A B n c m d l s hl hn hnc hs hm ((h.row hr (Nat.le_refl _)).more h.size) ((h.row hrs (Nat.le_refl _)).more h.size))
  have hsv := hide (fun (X : World) (h : Le w X) (t : Int) => refserves_any X t H A B n c m d l s hl hn hnc hs hm ((h.row hr (Nat.le_refl _)).more h.size) ((h.row hrs (Nat.le_refl _)).more h.size))
  have hha := hide (fun (X : World) (h : Le w X) (id : Int) => refhas_any X H A n c l id hl hn ((h.row hr (Nat.le_refl _)).more h.size))
  have c0 := bx.cell 0 (.int .i64 H) rfl
  have c1 := bx.cell 1 (.slice A n c) rfl
  have HS := hide hs
  clear hW hb bx hd hrd hl hs hr hrs
  go_enter Try.func19, Try.ntmps19
  go_upto_region 1 with fail
  rw [HW.out]
  obtain ⟨ck, hck0⟩ : ∃ x, checkI H l s = x := ⟨_, rfl⟩
  have HCK := hide hck0
  rw [hck0] at hck
  go_wp2_with fail
  refine (hck.out W HB.out).mono ?_
  rintro e w1 ⟨rfl, hb⟩
  have HL1 := hide (show Le w w1 from HB.out.trans hb)
  have BX1 := hide (BX.out.below hb BX.out.lt)
  clear hb c0 c1 BX hck0
  rcases check_two H l s with h0 | h0
  · obtain rfl : (0 : Int) = ck := h0.symm.trans HCK.out
    obtain ⟨h, hH, hhs, hh9⟩ := check_facts h0
    have HUS := hide (useless_seen (l := l) hH hhs)
    have HOC := hide (okC_lack (l := l) hH hhs)
    have HCK0 := hide h0
    rw [HS.out] at hhs
    subst hH
    clear h0 HCK hck
    have c0 := BX1.out.cell 0 (.int .i64 (h : Int)) rfl
    have c1 := BX1.out.cell 1 (.slice A n c) rfl
    obtain ⟨W0, hW0⟩ : ∃ W, w1.alloc (.cells #[] 41) = W := ⟨_, rfl⟩
    have HOW := hide (show W0.ownsRow (w.heap.size + 1) 41 3 (.slice (some ⟨w1.heap.size, 0, none⟩) 0 0) 0 (dcs []) by
      rw [← hW0]
      exact World.ownsRow_lit (base := w.heap.size + 1) (e := 41) (size := 3) w1 #[] 0 BX1.out.lt (by simp) rfl)
    have HB0 := hide (show Le w W0 by rw [← hW0]; exact HL1.out.alloc HL1.out.size _)
    have BX0 := hide (show Box W0 w.heap.size #[.int .i64 (h : Int), .slice A n c] 24 by rw [← hW0]; exact BX1.out.alloc _)
    have HW0 := hide hW0
    have hzw := HL1.out.size
    clear hW0 HL1 c0 c1
    go_upto_region 5 with fail
    rw [HW0.out]
    clear HW0 BX1 HW HB hzw
    go_wp2_with fail
    go_loopw [9, 10] (fun v i wr => ∃ (j k cs : Nat) (As : Option Addr) (o : List dr.Dr), i = .int .i64 j ∧ j ≤ dn ∧ v = .slice As k cs ∧ k ≤ j ∧ Hid (o.length = k) ∧ Hid ((ds.take j).filter (fun d => !useless h l s d) = o) ∧ Hid (wr.ownsRow (w.heap.size + 1) 41 3 (.slice As k cs) k (dcs o)) ∧ Hid (Box wr w.heap.size #[.int .i64 (h : Int), .slice A n c] 24) ∧ Hid (Le w wr)) (fun _ i _ => dn - (intOf i).toNat)
    case atStart => exact ⟨0, 0, _, _, [], rfl, Nat.zero_le _, rfl, Nat.le_refl _, hide rfl, hide rfl, HOW, BX0, HB0⟩
    case round =>
      clear HOW BX0 HB0
      obtain ⟨j, k, cs, As, o, rfl, hj, rfl, hkj, HK, HF, HO, BX, HB⟩ := hrel
      by_cases hjn : j < dn
      · obtain ⟨⟨uk, uf, ut⟩, hu⟩ : ∃ u, ds[j]? = some u := ⟨_, List.getElem?_eq_getElem (by rw [HD.out]; exact hjn)⟩
        obtain ⟨bA, oA, rfl, hbA, r0, r1, r2⟩ := row_dr HRD.out hu
        simp only at r0 r1 r2
        have hnj : (j : Int) < dn := by omega
        have HF2 := hide (show (ds.take (j + 1)).filter (fun d => !useless h l s d) = if !useless h l s ⟨uk, uf, ut⟩ then o ++ [⟨uk, uf, ut⟩] else o by rw [filter_snoc hu, HF.out])
        have HUU := hide (HUS.out ⟨uk, uf, ut⟩)
        have HC := hide (fun (W : World) (h : Le w W) => And.intro ((h.cell (p := ⟨bA, oA + j * 3, none⟩) hbA).trans r0) (And.intro ((h.cell (p := ⟨bA, oA + j * 3 + 1, none⟩) hbA).trans r1) ((h.cell (p := ⟨bA, oA + j * 3 + 2, none⟩) hbA).trans r2)))
        have hsvt := hide (fun (X : World) (h : Le w X) => hsv.out X h ut)
        simp only at HUU
        obtain ⟨sv, hsv'⟩ : ∃ b, servesI ut h l s = b := ⟨_, rfl⟩
        rw [hsv'] at HUU hsvt
        clear hu r0 r1 r2 hsv'
        go_upto_region 8 with fail
        obtain ⟨V, hV⟩ : ∃ V, wr.drew = V := ⟨_, rfl⟩
        have HLV := hide (show Le w V by rw [← hV]; exact HB.out.drew)
        have BXV := hide (show Box V w.heap.size #[.int .i64 (h : Int), .slice A n c] 24 by rw [← hV]; exact BX.out)
        have HOV := hide (show V.ownsRow (w.heap.size + 1) 41 3 (.slice As k cs) k (dcs o) by rw [← hV]; exact own_below HO.out (Below.refl _ _).drew)
        have HV := hide hV
        clear hV HB BX HO HF
        have d2 : ∀ W, Le V W → W.cell? ⟨bA, oA + j * 3 + 2, none⟩ = some (.int .i64 ut) := fun W h => (HC.out W (HLV.out.trans h)).2.2
        have g0 := BXV.out.later 0 (.int .i64 (h : Int)) rfl
        have g1 := BXV.out.later 1 (.slice A n c) rfl
        refine region_pi [(0, true), (1, true), (2, true), (3, true), (4, true), (5, true), (6, true), (7, false), (8, true)] (by kernel_rfl) (by kernel_rfl) ?_
        simp only [opsPi, List.filterMap_cons, List.filterMap_nil, List.getElem?_toArray, List.getElem?_cons_zero, List.getElem?_cons_succ, Option.map_some]
        rw [HV.out]
        repeat (first | (refine pi_take (v := _) rfl (fun W hW => by go_simp <;> exact rfl) ?_; simp only [Act.put, List.setIfInBounds_toArray, List.set_cons_zero, List.set_cons_succ]) | (refine pi_skip rfl ?_; simp only [Act.put, List.setIfInBounds_toArray, List.set_cons_zero, List.set_cons_succ]))
        refine pi_run ?_
        go_wp2_with fail
        refine (hsvt.out V HLV.out).mono ?_
        rintro e V1 ⟨rfl, hb⟩
        have HL1 := hide (show Le w V1 from HLV.out.trans hb)
        have BX1 := hide (BXV.out.below hb BXV.out.lt)
        have HO1 := hide (own_below HOV.out hb)
        clear BXV HOV HLV g0 g1 d2 HV
        go_wp2_with fail
        refine ⟨hb, ?_⟩
        clear hb
        repeat (first | (refine pi_take (v := _) rfl (fun W hW => by go_simp <;> exact rfl) ?_; simp only [Act.put, List.setIfInBounds_toArray, List.set_cons_zero, List.set_cons_succ]) | (refine pi_skip rfl ?_; simp only [Act.put, List.setIfInBounds_toArray, List.set_cons_zero, List.set_cons_succ]))
        refine pi_done ?_
        go_wp2_with fail
        go_loopw [12, 13] (fun v i wr => ∃ q : Nat, v = .bool (anyTo (seenP h l ⟨uk, uf, ut⟩) q) ∧ i = .int .i64 ((q : Int) + 1) ∧ q ≤ h ∧ Hid (Le V1 wr)) (fun _ i _ => h + 1 - (intOf i).toNat)
        case atStart => exact ⟨0, rfl, rfl, Nat.zero_le _, hide (Le.refl _)⟩
        case round =>
          obtain ⟨q, rfl, rfl, hq, HLr⟩ := hrel
          have BXr := hide (BX1.out.below HLr.out BX1.out.lt)
          have HBr := hide (HL1.out.trans HLr.out)
          have c0 := BXr.out.cell 0 (.int .i64 (h : Int)) rfl
          have c1 := BXr.out.cell 1 (.slice A n c) rfl
          obtain ⟨b, hb'⟩ : ∃ b, anyTo (seenP h l ⟨uk, uf, ut⟩) q = b := ⟨_, rfl⟩
          rw [hb']
          by_cases hqh : q < h
          · have hle : ((q : Int) + 1 ≤ h) := by omega
            obtain ⟨id, hid⟩ : ∃ id : Int, (q : Int) + 1 = id := ⟨_, rfl⟩
            rw [hid] at hle
            have HID := hide hid
            have HQ := hide hqh
            obtain ⟨hv, hhv⟩ : ∃ b, has h l id = b := ⟨_, rfl⟩
            obtain ⟨p1, hp1⟩ : ∃ b, decide (uf ≤ id) = b := ⟨_, rfl⟩
            obtain ⟨p2, hp2⟩ : ∃ b, decide (id ≤ ut) = b := ⟨_, rfl⟩
            have HAN := hide (show anyTo (seenP h l ⟨uk, uf, ut⟩) (q + 1) = (b || (hv && (p1 && p2))) by
              rw [← hhv, ← hp1, ← hp2, ← hb', ← HID.out]
              rfl)
            have hhd := hide (show ∀ (X : World), Le w X → _ from fun X hX => hha.out X hX id)
            rw [hhv] at hhd
            have hw1 : (1 : Int) ≤ id := by omega
            have hw2 : id ≤ 1073741824 := by omega
            rw [hid]
            clear hid hhv hb' hqh
            go_wp2_with fail
            refine (hhd.out wr HBr.out).mono ?_
            rintro e w2 ⟨rfl, hb⟩
            have HL2 := hide (show Le V1 w2 from HLr.out.trans hb)
            have HC2 := HC.out w2 (HBr.out.trans hb)
            clear hb c0 c1 BXr HBr HLr
            obtain ⟨d0, d1, d2⟩ := HC2
            clear d0
            cases b <;> cases hv <;> cases p1
            all_goals
              go_wp2_with fail
              have hid2 := HID.out
              have hq2 := HQ.out
              subst hid2
              exact ⟨⟨q + 1, by rw [HAN.out]; rfl, by go_num, by omega, HL2⟩, by simp [intOf]; omega⟩
          · obtain rfl : q = h := by omega
            have hle : decide ((q : Int) + 1 ≤ q) = false := decide_eq_false (by omega)
            obtain ⟨id, hid⟩ : ∃ id : Int, (q : Int) + 1 = id := ⟨_, rfl⟩
            rw [hid] at hle ⊢
            rw [hb'] at HUU
            obtain ⟨d0, d1, d2⟩ := HC.out wr HBr.out
            have HOr := hide (own_below HO1.out HLr.out)
            clear hid hqh hq hb' c1 BX1 HO1 HLr
            obtain ⟨p1, hp1⟩ : ∃ b, (uk == 1) = b := ⟨_, rfl⟩
            obtain ⟨p2, hp2⟩ : ∃ b, (uk == 2) = b := ⟨_, rfl⟩
            rw [hp1, hp2] at HUU
            obtain ⟨Y, rfl⟩ : ∃ Y, Y = wr := ⟨_, rfl⟩
            go_upto_region 15 with fail
            go_cut [91] (fun v wx => v = .bool (p1 && sv || p2 && b) ∧ Y = wx)
            case first =>
              cases p1
              · cases p2
                all_goals
                  go_wp2_with fail
                  go_meet
                  exact ⟨rfl, rfl⟩
              · cases sv <;> cases p2
                all_goals
                  go_wp2_with fail
                  go_meet
                  exact ⟨rfl, rfl⟩
            case rest =>
              obtain ⟨rfl, rfl⟩ := hcut
              obtain ⟨u, hu⟩ : ∃ u, (p1 && sv || p2 && b) = u := ⟨_, rfl⟩
              rw [hu] at HUU ⊢
              rw [HUU.out] at HF2
              clear hu hp1 hp2 c0 hle
              cases u
              · go_wp2_with fail
                exact ⟨⟨j + 1, k, cs, As, o, by go_num, by omega, rfl, by omega, HK, HF2, HOr, BXr, HBr⟩, by simp [intOf]; omega⟩
              · have hzY := HBr.out.size
                have hzB := BXr.out.lt
                go_wp2_with (at_builtin; refine wpList_append_row _ rfl (.tmp 92) (.tmp 97) 35 rfl (w.heap.size + 1) 41 infoD Try.underlying35 rfl (by omega) (.slice As k cs) k _ rfl (HOr.out.alloc _) _ (some ⟨Y.heap.size, 0, none⟩) 1 1 (dcs [⟨uk, uf, ut⟩]) rfl rfl (row_new Y #[.int .i64 uk, .int .i64 uf, .int .i64 ut] _ (0, 0)) dcs_one (by simp only [maxLen]; omega) (by omega) (by simp; omega) ?_; intro v' w' hown' hg hat; obtain ⟨A1, c1, rfl, -, -⟩ := own_form hown'; have HO' := hide hown'; have HGR := hide hg; have BGn := hide ((BXr.out.alloc (.cells #[.int .i64 uk, .int .i64 uf, .int .i64 ut] 41)).grown hg (fun g hgg => by have := own_ge HOr.out hgg (Nat.le_refl _); omega)); clear hown' hg hat)
                have HB' := hide (show Le w w' from Below.trans HBr.out (Below.trans ((Below.refl _ _).alloc hzY _) (below_own HGR.out (Nat.le_refl _) (by simp; omega) (fun g h => own_ge HOr.out h (Nat.le_succ _)))))
                exact ⟨⟨j + 1, k + 1, c1, A1, o ++ [⟨uk, uf, ut⟩], by go_num, by omega, rfl, by omega, hide (by simp [HK.out]), HF2, hide (by rw [dcs_append]; exact HO'.out), BGn, HB'⟩, by simp [intOf]; omega⟩
      · obtain rfl : j = dn := by omega
        have HF2 := hide (show ds.filter (fun d => !useless h l s d) = o by
          have h := HF.out
          rwa [List.take_of_length_le (by rw [HD.out]; exact Nat.le_refl _)] at h)
        obtain ⟨Y, rfl⟩ : ∃ Y, Y = wr := ⟨_, rfl⟩
        have hch := hide (refchosen_any Y As k cs o h HK.out (by omega) (Row.of_own HO.out))
        have c0 := BX.out.cell 0 (.int .i64 (h : Int)) rfl
        have c1 := BX.out.cell 1 (.slice A n c) rfl
        clear HF
        go_wp2_with fail
        refine hch.out.mono ?_
        rintro e w2 ⟨v, ch, rfl, hcho, hown, hb⟩
        obtain ⟨AC, cc, rfl, -, -⟩ := own_form hown
        obtain ⟨kc, hlen⟩ : ∃ kc, ch.length = kc := ⟨_, rfl⟩
        rw [hlen] at hown ⊢
        have HL2 := hide (HB.out.trans hb)
        have BX2 := hide (BX.out.below hb BX.out.lt)
        have HRC := hide (Row.of_own hown)
        have HCH := hide (show dr.Chosen (ds.filter fun d => !useless h l s d) h ch by rw [HF2.out]; exact hcho)
        have HLEN := hide hlen
        have HOCC := hide (HOC.out ch)
        have hkc : kc ≤ 1001 := by have := chosen_len hcho; rw [hlen, HK.out] at this; omega
        clear hb hcho hown hlen c0 c1 BX HO HB HF2 HK hch HOC HUS
        go_wp2_with fail
        go_loopw [16] (fun i wr => ∃ q : Nat, i = .int .i64 ((q : Int) + 1) ∧ q ≤ h ∧ Hid (anyTo (lackP h l ch) q = false) ∧ Hid (Le w2 wr)) (fun i _ => h + 1 - (intOf i).toNat)
        case atStart => exact ⟨0, rfl, Nat.zero_le _, hide rfl, hide (Le.refl _)⟩
        case round =>
          obtain ⟨q, rfl, hq, HNO, HLr⟩ := hrel
          have BXr := hide (BX2.out.below HLr.out BX2.out.lt)
          have HBr := hide (HL2.out.trans HLr.out)
          have c0 := BXr.out.cell 0 (.int .i64 (h : Int)) rfl
          have c1 := BXr.out.cell 1 (.slice A n c) rfl
          by_cases hqh : q < h
          · have hle : ((q : Int) + 1 ≤ h) := by omega
            obtain ⟨id, hid⟩ : ∃ id : Int, (q : Int) + 1 = id := ⟨_, rfl⟩
            rw [hid] at hle
            have HID := hide hid
            have HQ := hide hqh
            obtain ⟨hv, hhv⟩ : ∃ b, has h l id = b := ⟨_, rfl⟩
            have HLK := hide (show lackP h l ch ((q : Int) + 1) = (hv && !(ch.any fun d => inD d id)) by rw [HID.out, ← hhv]; rfl)
            have hhd := hide (show ∀ (X : World), Le w X → _ from fun X hX => hha.out X hX id)
            rw [hhv] at hhd
            have hw1 : (1 : Int) ≤ id := by omega
            have hw2 : id ≤ 1073741824 := by omega
            rw [hid]
            clear hid hhv hqh
            go_wp2_with fail
            refine (hhd.out wr HBr.out).mono ?_
            rintro e w3 ⟨rfl, hb⟩
            have HL3 := hide (show Le w2 w3 from HLr.out.trans hb)
            clear hb c0 c1 BXr HBr HLr
            go_wp2_with fail
            go_loopw [18, 19] (fun v i wr => ∃ p : Nat, v = .bool (!hv || (ch.take p).any fun d => inD d id) ∧ i = .int .i64 p ∧ p ≤ kc ∧ wr = w3) (fun _ i _ => kc - (intOf i).toNat)
            case atStart => exact ⟨0, by simp, rfl, Nat.zero_le _, rfl⟩
            case round =>
              obtain ⟨p, rfl, rfl, hp, rfl⟩ := hrel
              obtain ⟨b, hb'⟩ : ∃ b, (!hv || (ch.take p).any fun d => inD d id) = b := ⟨_, rfl⟩
              rw [hb']
              by_cases hpk : p < kc
              · obtain ⟨⟨uk, uf, ut⟩, hu⟩ : ∃ u, ch[p]? = some u := ⟨_, List.getElem?_eq_getElem (by rw [HLEN.out]; exact hpk)⟩
                obtain ⟨bA, oA, rfl, hbA, r0, r1, r2⟩ := row_dr HRC.out hu
                simp only at r0 r1 r2
                have hpI : (p : Int) < kc := by omega
                have d1 : wr.cell? ⟨bA, oA + p * 3 + 1, none⟩ = some (.int .i64 uf) := (HL3.out.cell (p := ⟨bA, oA + p * 3 + 1, none⟩) hbA).trans r1
                have d2 : wr.cell? ⟨bA, oA + p * 3 + 2, none⟩ = some (.int .i64 ut) := (HL3.out.cell (p := ⟨bA, oA + p * 3 + 2, none⟩) hbA).trans r2
                obtain ⟨p1, hp1⟩ : ∃ b, decide (uf ≤ id) = b := ⟨_, rfl⟩
                obtain ⟨p2, hp2⟩ : ∃ b, decide (id ≤ ut) = b := ⟨_, rfl⟩
                have HAN := hide (show (!hv || (ch.take (p + 1)).any fun d => inD d id) = (b || (p1 && p2)) by
                  rw [take_snoc hu, List.any_append, ← Bool.or_assoc, hb', ← hp1, ← hp2]
                  simp [inD])
                clear hu r0 r1 r2 hb'
                cases b <;> cases p1
                all_goals
                  go_wp2_with fail
                  exact ⟨⟨p + 1, by rw [HAN.out]; rfl, by go_num, by omega, trivial⟩, by simp [intOf]; omega⟩
              · obtain rfl : p = kc := by omega
                rw [List.take_of_length_le (by rw [HLEN.out]; exact Nat.le_refl _)] at hb'
                have HLB := hide (show lackP h l ch ((q : Int) + 1) = !b by rw [HLK.out, ← hb']; cases hv <;> simp)
                clear hb' HLK
                cases b
                · have HFIN := hide (show allI (okC h l ch) s = false by rw [HOCC.out, anyTo_one HQ.out HLB.out]; rfl)
                  go_wp2_with fail
                  go_ret2
                  exact ⟨none, 0, 0, [], 31, rfl, rfl, by omega, .inr ⟨HCK0.out, ch, HCH.out, .inr ⟨HFIN.out, rfl, rfl⟩⟩, Row.none_, HL2.out.trans HL3.out⟩
                · have HNO2 := hide (show anyTo (lackP h l ch) (q + 1) = false by
                    unfold anyTo
                    rw [HNO.out, HLB.out]; rfl)
                  go_wp2_with fail
                  have hid2 := HID.out
                  have hq2 := HQ.out
                  subst hid2
                  exact ⟨⟨q + 1, by go_num, by omega, HNO2, HL3⟩, by simp [intOf]; omega⟩
          · obtain rfl : q = h := by omega
            have hle : decide ((q : Int) + 1 ≤ q) = false := decide_eq_false (by omega)
            obtain ⟨id, hid⟩ : ∃ id : Int, (q : Int) + 1 = id := ⟨_, rfl⟩
            rw [hid] at hle ⊢
            have HFIN := hide (show allI (okC q l ch) s = true by rw [HOCC.out, HNO.out]; rfl)
            clear hid hqh hq c1
            go_wp2_with fail
            go_ret2
            exact ⟨AC, kc, cc, ch, 0, rfl, HLEN.out, hkc, .inr ⟨HCK0.out, ch, HCH.out, .inl ⟨HFIN.out, rfl, rfl⟩⟩, (HLr.out.row HRC.out (Nat.le_refl _)).more HLr.out.size, HBr.out⟩
  · obtain rfl : (30 : Int) = ck := h0.symm.trans HCK.out
    go_wp2_with fail
    go_ret2
    exact ⟨none, 0, 0, [], 30, rfl, rfl, by omega, .inl ⟨HCK.out, rfl, rfl⟩, Row.none_, HL1.out⟩
#print axioms refplan_any
end Go.Proofs.Ytnihladjafnjpaa
