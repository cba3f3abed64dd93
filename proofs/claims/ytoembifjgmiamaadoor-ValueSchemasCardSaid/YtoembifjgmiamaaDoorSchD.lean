/-
  The program's answer on columns and rows, walked.
-/
import Derived.Test.YtoembifjgmiamaaDoorSchC
import Derived.Maps.Own
import Derived.Maps.Views
namespace Go.Proofs.YtoembifjgmiamaaDoor
open Go.RowKit
open Go.Maps (Keyed)
set_option linter.unusedVariables false

theorem col_one (c : va.Col) : (#[.string c.name, .int .i64 c.kind] : Array Value).all (·.oneCell') = true := by simp [Value.oneCell']
theorem col_box (w : World) (z : Array Value) (t : TypeId) (c : va.Col) : ∃ X, (w.alloc (.cells z t)).setRow w.heap.size #[.string c.name, .int .i64 c.kind] = X ∧ Box X w.heap.size #[.string c.name, .int .i64 c.kind] t ∧ Below w.heap.size w X :=
  ⟨_, rfl, setRow_heap _ _ _ _ _ _ (box_new _ _ _), below_setRow ((Below.refl _ _).alloc (Nat.le_refl _) _) (Nat.le_refl _) _⟩

set_option maxRecDepth 100000 in
set_option maxHeartbeats 2000000 in
theorem vrow_any (w : World) (A : Option Addr) (n c0 : Nat) (l : List va.Col) (hl : l.length = n) (hn : n ≤ 9223372036854775807) (hr : Row w w.heap.size A (ccs l))
    (A' : Option Addr) (m c1 : Nat) (r : List va.Val) (hl' : r.length = m) (hm : m ≤ 9223372036854775807) (hw : ∀ v ∈ r, (Lit.int .i64 v.n).wf = true) (hs : ∀ v ∈ r, v.s.size ≤ 9223372036854775807) (hr' : Row w w.heap.size A' (vcs r)) (hT : Tabs8 w) :
    Calls Tryd.prog 17 #[.slice A n c0, .slice A' m c1] w fun e w' => e = .returned (.int .i64 (va.rowV l r)) ∧ Below w.heap.size w w' := by
  have HL := hide hl
  have HL' := hide hl'
  have HS := hide hs
  have HW := hide hw
  have HR := hide hr
  have HR' := hide hr'
  have HT := hide hT
  obtain ⟨R, hR⟩ : ∃ R, va.rowV l r = R := ⟨_, rfl⟩
  rw [hR]
  obtain ⟨ans, hans⟩ : ∃ a, va.fitsV l r = a := ⟨_, rfl⟩
  have HV := hide (show R = if n = m ∧ ans = true then 0 else 21 by rw [← hR]; unfold va.rowV; rw [hl, hl', hans])
  have HA := hide (show va.fitsV (l.drop 0) (r.drop 0) = ans by rw [List.drop_zero, List.drop_zero]; exact hans)
  clear hl hl' hs hw hr hr' hR hans hT
  go_enter Tryd.func17, Tryd.ntmps17
  by_cases hnm : n = m
  · subst hnm
    have hnn : ((n : Int) != n) = false := by simp
    have HBAD := hide (show ans = false → R = 21 from fun h => by rw [HV.out, if_neg]; rw [h]; simp)
    have HGOOD := hide (show ans = true → R = 0 from fun h => by rw [HV.out, if_pos ⟨rfl, h⟩])
    clear HV
    go_wp2_with fail
    go_loopw [14] (fun i wr => ∃ j : Nat, i = .int .i64 j ∧ j ≤ n ∧ Hid (va.fitsV (l.drop j) (r.drop j) = ans) ∧ Hid (Le w wr)) (fun i _ => n - (intOf i).toNat)
    case atStart => exact ⟨0, rfl, Nat.zero_le _, HA, hide (Below.refl _ _)⟩
    case round =>
      obtain ⟨j, rfl, hj, HG, HB⟩ := hrel
      by_cases hp : j < n
      · obtain ⟨c, hc⟩ : ∃ c, l[j]? = some c := ⟨_, List.getElem?_eq_getElem (by rw [HL.out]; exact hp)⟩
        obtain ⟨v, hv⟩ : ∃ v, r[j]? = some v := ⟨_, List.getElem?_eq_getElem (by rw [HL'.out]; exact hp)⟩
        obtain ⟨bA, oA, rfl, hbA, r0, r1⟩ := row_at2 HR.out hc
        obtain ⟨bB, oB, rfl, hbB, s0, s1, s2⟩ := row_at3 HR'.out hv
        have HSZ := hide (HS.out v (List.mem_of_getElem? hv))
        have HWF := hide (HW.out v (List.mem_of_getElem? hv))
        have HST := hide (show (va.mayV c.kind v && va.fitsV (l.drop (j + 1)) (r.drop (j + 1))) = ans by rw [← va.fits_step hc hv]; exact HG.out)
        have hnj : (j : Int) < n := by omega
        have e0 : wr.cell? ⟨bA, oA + j * 2, none⟩ = some (.string c.name) := (HB.out.cell (p := ⟨bA, oA + j * 2, none⟩) hbA).trans r0
        have e1 : wr.cell? ⟨bA, oA + j * 2 + 1, none⟩ = some (.int .i64 c.kind) := (HB.out.cell (p := ⟨bA, oA + j * 2 + 1, none⟩) hbA).trans r1
        obtain ⟨X, hX, bX, hbX⟩ := col_box wr #[.string ⟨#[]⟩, .int .i64 0] 42 c
        have HX := hide hX
        obtain ⟨V, hV⟩ : ∃ V, X.drew = V := ⟨_, rfl⟩
        have HLV := hide (show Le w V by rw [← hV]; exact (HB.out.trans hbX).drew)
        have f1 := (show Box V wr.heap.size #[.string c.name, .int .i64 c.kind] 42 by rw [← hV]; exact bX.drew).later 1 (.int .i64 c.kind) rfl
        have HV := hide hV
        have HS0 := hide s0
        have HS1 := hide s1
        have HS2 := hide s2
        clear r0 r1 s0 s1 s2 hc hv HG hV hX bX hbX
        go_upto_region 6 with (refine wpList_store_row rfl 42 _ _ rfl wr.heap.size _ rfl rfl 42 _ (box_new _ _ _) (by kernel_rfl) rfl (col_one c) ?_)
        rw [HX.out]
        clear e0 e1
        have e2 : ∀ W, Le V W → W.cell? ⟨bB, oB + j * 3, none⟩ = some (.bool v.nul) := fun W h => ((HLV.out.trans h).cell (p := ⟨bB, oB + j * 3, none⟩) hbB).trans HS0.out
        have e3 : ∀ W, Le V W → W.cell? ⟨bB, oB + j * 3 + 1, none⟩ = some (.int .i64 v.n) := fun W h => ((HLV.out.trans h).cell (p := ⟨bB, oB + j * 3 + 1, none⟩) hbB).trans HS1.out
        have e4 : ∀ W, Le V W → W.cell? ⟨bB, oB + j * 3 + 2, none⟩ = some (.string v.s) := fun W h => ((HLV.out.trans h).cell (p := ⟨bB, oB + j * 3 + 2, none⟩) hbB).trans HS2.out
        refine region_pi [(0, true), (1, true), (2, true), (3, true), (4, true), (5, true), (6, false), (7, true)] (by kernel_rfl) (by kernel_rfl) ?_
        simp only [opsPi, List.filterMap_cons, List.filterMap_nil, List.getElem?_toArray, List.getElem?_cons_zero, List.getElem?_cons_succ, Option.map_some]
        rw [HV.out]
        repeat (first | (refine pi_take (v := _) rfl (fun W hW => by go_simp <;> exact rfl) ?_; simp only [Act.put, List.setIfInBounds_toArray, List.set_cons_zero, List.set_cons_succ]) | (refine pi_skip rfl ?_; simp only [Act.put, List.setIfInBounds_toArray, List.set_cons_zero, List.set_cons_succ]))
        refine pi_run ?_
        go_wp2_with fail
        refine (vmay_any V c.kind v HWF.out HSZ.out (HT.out.le HLV.out)).mono ?_
        rintro e V1 ⟨rfl, hb⟩
        have HL1 := hide (show Le w V1 from HLV.out.trans hb)
        go_wp2_with fail
        refine ⟨hb, ?_⟩
        clear hb e2 e3 e4 f1
        repeat (first | (refine pi_take (v := _) rfl (fun W hW => by go_simp <;> exact rfl) ?_; simp only [Act.put, List.setIfInBounds_toArray, List.set_cons_zero, List.set_cons_succ]) | (refine pi_skip rfl ?_; simp only [Act.put, List.setIfInBounds_toArray, List.set_cons_zero, List.set_cons_succ]))
        refine pi_done ?_
        obtain ⟨q, hq⟩ : ∃ q, va.mayV c.kind v = q := ⟨_, rfl⟩
        rw [hq] at HST ⊢
        clear hq
        cases q
        · have HF := hide (HBAD.out (by rw [← HST.out]; rfl))
          go_wp2_with fail
          go_ret
          rw [HF.out]
          exact ⟨rfl, HL1.out⟩
        · have HST2 := hide (show va.fitsV (l.drop (j + 1)) (r.drop (j + 1)) = ans by rw [← HST.out]; rfl)
          go_wp2_with fail
          exact ⟨⟨j + 1, by go_num, by omega, HST2, HL1⟩, by simp [intOf]; omega⟩
      · obtain rfl : j = n := by omega
        have ha : ans = true := by
          rw [← HG.out, List.drop_eq_nil_of_le (by rw [HL.out]; exact Nat.le_refl _)]
          rfl
        have HF := hide (HGOOD.out ha)
        clear ha
        go_wp2_with fail
        go_ret
        rw [HF.out]
        exact ⟨rfl, HB.out⟩
  · have hnn : ((n : Int) != m) = true := by simp; omega
    have HF := hide (show R = 21 by rw [HV.out, if_neg]; exact fun h => hnm h.1)
    go_wp2_with fail
    go_ret
    rw [HF.out]
    exact ⟨rfl, Below.refl _ _⟩
#print axioms vrow_any

/-- The names that have been, as a map of the call's own. -/
def Names (W : World) (b j : Nat) (l : List va.Col) : Prop := ∃ D : DataW Nat, W.ownsMap Tryd.prog 9 (plainElem Tryd.prog 4) b j D ∧ Maps.IsMap D ∧ ∀ s : ByteArray, D.atKey (.string s.data.toList) (.lit (.bool false)) = .lit (.bool (va.seenV l s))
theorem Names.on {W W' : World} {b j : Nat} {l : List va.Col} (h : Names W b j l) (e : W'.heap[b]? = W.heap[b]?) : Names W' b j l := by
  obtain ⟨D, ⟨es, clock, hb, F, hs, rfl⟩, hD⟩ := h
  exact ⟨_, ⟨es, clock, e.trans hb, F, hs, rfl⟩, hD⟩
theorem Names.lt {W : World} {b j : Nat} {l : List va.Col} (h : Names W b j l) : b < W.heap.size := by
  obtain ⟨D, hown, -, -⟩ := h
  exact hown.lt
theorem names_new (w : World) : Names (w.alloc (.map #[] 0)) w.heap.size 0 [] :=
  ⟨_, World.ownsMap_made w _ _ _, Maps.isMap_empty, fun s => rfl⟩
theorem zeroB (w : World) : (zeroValue 4).run Tryd.prog w = .ok (.bool false) w := by kernel_rfl
theorem lit_bool_inv {v : Value} {z : DataW Nat × List MemPlace} (h : plainElem Tryd.prog 4 v = some z) : ∃ b, v = .bool b ∧ z = (.lit (.bool b), []) := by
  unfold plainElem at h
  rw [Tryd.underlying4] at h
  cases v <;> simp at h
  exact ⟨_, rfl, h.symm⟩
theorem Names.look {W : World} {b j : Nat} {l : List va.Col} (h : Names W b j l) {s : ByteArray} (hs : s.size ≤ maxLen) : (Instr.lookup 40 (.map (some b)) (.string s) false).run Tryd.prog W = .ok (.bool (va.seenV l s)) W := by
  obtain ⟨D, hown, -, hat⟩ := h
  obtain ⟨v, ps, hrun, hv⟩ := hown.lookup (Maps.string_keyed Tryd.underlying9) Tryd.underlying40 (zeroB W) (plainElem_bool Tryd.underlying4 false) (WideMaps.keyOf_string_mk Tryd.underlying9 hs)
  obtain ⟨x, rfl, e⟩ := lit_bool_inv hv
  rw [hat s] at e
  simp only [Prod.mk.injEq, DataW.lit.injEq, Lit.bool.injEq] at e
  rw [hrun, e.1]
theorem eqS_data (x y : ByteArray) : va.eqS x y = decide (x.data.toList = y.data.toList) := by
  unfold va.eqS
  rw [Lib.toList_data, Lib.toList_data]
  rw [Bool.eq_iff_iff]
  simp
theorem Names.put {D : DataW Nat} {l : List va.Col} (hm : Maps.IsMap D) (hat : ∀ s : ByteArray, D.atKey (.string s.data.toList) (.lit (.bool false)) = .lit (.bool (va.seenV l s))) (c : va.Col) :
    ∀ s : ByteArray, (D.put (.string c.name.data.toList) (.lit (.bool true))).atKey (.string s.data.toList) (.lit (.bool false)) = .lit (.bool (va.seenV (l ++ [c]) s)) := by
  intro s
  have e : va.seenV (l ++ [c]) s = (va.seenV l s || va.eqS c.name s) := by simp [va.seenV]
  rw [e, eqS_data]
  by_cases h : c.name.data.toList = s.data.toList
  · rw [h, Maps.atKey_put_same hm (by simp [WideAt.IsKeyLit]), decide_eq_true rfl, Bool.or_true]
  · rw [Maps.atKey_put_other (by intro k; injection k with k; exact h k.symm), hat s, decide_eq_false h, Bool.or_false]
#print axioms Names.put

set_option maxRecDepth 100000 in
set_option maxHeartbeats 4000000 in
theorem vschema_any (w : World) (A : Option Addr) (n c0 : Nat) (l : List va.Col) (hl : l.length = n) (hn : n ≤ 9223372036854775807) (hs : ∀ c ∈ l, c.name.size ≤ maxLen) (hr : Row w w.heap.size A (ccs l)) :
    Calls Tryd.prog 15 #[.slice A n c0] w fun e w' => e = .returned (.int .i64 (va.schemaV l)) ∧ Below w.heap.size w w' := by
  have HL := hide hl
  have HS := hide hs
  have HR := hide hr
  obtain ⟨R, hR⟩ : ∃ R, va.schemaV l = R := ⟨_, rfl⟩
  rw [hR]
  obtain ⟨ans, hans⟩ : ∃ a, va.goodV [] l = a := ⟨_, rfl⟩
  have HV := hide (show R = if 1 ≤ n ∧ n ≤ 6 ∧ ans = true then 0 else 20 by rw [← hR]; unfold va.schemaV; rw [hl, hans])
  have HA := hide (show va.goodV (l.take 0) (l.drop 0) = ans by rw [List.take_zero, List.drop_zero]; exact hans)
  clear hl hs hr hR hans
  have hmm := @run_makeMap Tryd.prog
  go_enter Tryd.func15, Tryd.ntmps15
  by_cases h1 : n < 1
  · have d1 : decide ((n : Int) < 1) = true := decide_eq_true (by omega)
    have HF := hide (show R = 20 by rw [HV.out, if_neg]; omega)
    go_wp2_with fail
    go_ret
    rw [HF.out]
    exact ⟨rfl, Below.refl _ _⟩
  · have d1 : decide ((n : Int) < 1) = false := decide_eq_false (by omega)
    by_cases h2 : 6 < n
    · have d2 : decide (6 < (n : Int)) = true := decide_eq_true (by omega)
      have HF := hide (show R = 20 by rw [HV.out, if_neg]; omega)
      go_wp2_with fail
      go_ret
      rw [HF.out]
      exact ⟨rfl, Below.refl _ _⟩
    · have d2 : decide (6 < (n : Int)) = false := decide_eq_false (by omega)
      have HBAD := hide (show ans = false → R = 20 from fun h => by rw [HV.out, if_neg]; rw [h]; simp)
      have HGOOD := hide (show ans = true → R = 0 from fun h => by rw [HV.out, if_pos ⟨by omega, by omega, h⟩])
      clear HV
      go_wp2_with fail
      clear hmm
      go_loopw [17] (fun i wr => ∃ j : Nat, i = .int .i64 j ∧ j ≤ n ∧ Hid (va.goodV (l.take j) (l.drop j) = ans) ∧ Hid (Names wr w.heap.size j (l.take j)) ∧ Hid (Le w wr)) (fun i _ => n - (intOf i).toNat)
      case atStart => exact ⟨0, rfl, Nat.zero_le _, HA, hide (by rw [List.take_zero]; exact names_new w), hide ((Below.refl _ _).alloc (Nat.le_refl _) _)⟩
      case round =>
        obtain ⟨j, rfl, hj, HG, HN, HB⟩ := hrel
        by_cases hp : j < n
        · obtain ⟨c, hc⟩ : ∃ c, l[j]? = some c := ⟨_, List.getElem?_eq_getElem (by rw [HL.out]; exact hp)⟩
          obtain ⟨bA, oA, rfl, hbA, r0, r1⟩ := row_at2 HR.out hc
          have HSZ := hide (HS.out c (List.mem_of_getElem? hc))
          have HST := hide (show (va.nameV c.name && (va.kindV c.kind && (!va.seenV (l.take j) c.name && va.goodV (l.take (j + 1)) (l.drop (j + 1))))) = ans by rw [← va.good_step hc]; exact HG.out)
          have HTK := hide (va.take_step hc)
          have hnj : (j : Int) < n := by omega
          have e0 : wr.cell? ⟨bA, oA + j * 2, none⟩ = some (.string c.name) := (HB.out.cell (p := ⟨bA, oA + j * 2, none⟩) hbA).trans r0
          have e1 : wr.cell? ⟨bA, oA + j * 2 + 1, none⟩ = some (.int .i64 c.kind) := (HB.out.cell (p := ⟨bA, oA + j * 2 + 1, none⟩) hbA).trans r1
          obtain ⟨X, hX, bX, hbX⟩ := col_box wr #[.string ⟨#[]⟩, .int .i64 0] 42 c
          have HX := hide hX
          have HNX := hide (HN.out.on (hbX.block _ HN.out.lt))
          have HLX := hide (show Le w X from HB.out.trans hbX)
          have BX := hide bX
          clear r0 r1 hc HG hX bX hbX
          go_upto_region 7 with (refine wpList_store_row rfl 42 _ _ rfl wr.heap.size _ rfl rfl 42 _ (box_new _ _ _) (by kernel_rfl) rfl (col_one c) ?_)
          rw [HX.out]
          clear e0 e1
          have f0 := BX.out.cell 0 (.string c.name) rfl
          have f1 := BX.out.cell 1 (.int .i64 c.kind) rfl
          obtain ⟨nv, hnv⟩ : ∃ b, va.nameV c.name = b := ⟨_, rfl⟩
          obtain ⟨sn, hsn⟩ : ∃ b, va.seenV (l.take j) c.name = b := ⟨_, rfl⟩
          obtain ⟨nb, hnb⟩ : ∃ b, decide (1 ≤ c.kind ∧ c.kind ≤ 5) = b := ⟨_, rfl⟩
          have hnm := hide (fun (w : World) (h : c.name.size ≤ 9223372036854775807) => hnv ▸ named_any w c.name h)
          have hnum := hide (fun (w : World) => hnb ▸ number_any w c.kind)
          go_wp2_with fail
          refine (hnm.out X (by have := HSZ.out; unfold maxLen at this; omega)).mono ?_
          rintro e w1 ⟨rfl, hb1⟩
          have HN1 := hide (HNX.out.on (hb1.block _ HNX.out.lt))
          have HB1 := hide (show Le w w1 from HLX.out.trans hb1)
          have B1 := hide (BX.out.below hb1 BX.out.lt)
          clear hb1 f0 f1
          have f0 := B1.out.cell 0 (.string c.name) rfl
          have f1 := B1.out.cell 1 (.int .i64 c.kind) rfl
          have hlk := HN1.out.look HSZ.out
          rw [hsn] at hlk
          rw [hnv, hsn] at HST
          clear hnv hsn
          cases nv
          · have HF := hide (HBAD.out HST.out.symm)
            go_wp2_with fail
            go_ret
            rw [HF.out]
            exact ⟨rfl, HB1.out⟩
          · cases sn
            · go_wp2_with fail
              refine (hnum.out w1).mono ?_
              rintro e w' ⟨rfl, rfl⟩
              obtain ⟨kv, hkv⟩ : ∃ b, va.kindV c.kind = b := ⟨_, rfl⟩
              rw [hkv] at HST
              obtain ⟨k6, hk6⟩ : ∃ b, (c.kind != 6) = b := ⟨_, rfl⟩
              obtain ⟨k7, hk7⟩ : ∃ b, (c.kind != 7) = b := ⟨_, rfl⟩
              have hk : kv = (nb || !k6 || !k7) := by
                rw [← hkv, ← hnb, ← hk6, ← hk7]
                unfold va.kindV
                rw [Bool.eq_iff_iff]
                simp
                omega
              rw [hk] at HST
              clear hkv hk hnb
              have hrest : ∀ (h : (nb || !k6 || !k7) = true), va.goodV (l.take (j + 1)) (l.drop (j + 1)) = ans := fun h => by
                have e := HST.out
                rw [h] at e
                exact e
              have hbad : ∀ (h : (nb || !k6 || !k7) = false), R = 20 := fun h => HBAD.out (by
                have e := HST.out
                rw [h] at e
                exact e.symm)
              have HREST := hide hrest
              have HBAD2 := hide hbad
              clear hrest hbad
              obtain ⟨D, hown, hm, hat⟩ := HN1.out
              have HOWN := hide hown
              have HAT := hide (Names.put hm hat c)
              have HM := hide (hm.put (.string c.name.data.toList) (.lit (.bool true)))
              clear hown hm hat hlk
              cases nb <;> cases k6 <;> cases k7
              all_goals
                go_wp2_with (at_mapUpdate; refine wpList_mapUpdate_own _ rfl _ _ _ 40 rfl 9 4 (Maps.string_keyed Tryd.underlying9) Tryd.underlying40 _ w.heap.size j D rfl HOWN.out (by unfold maxLen; omega) _ _ (.string c.name.data.toList) rfl rfl (WideMaps.keyOf_string_mk Tryd.underlying9 HSZ.out) (.lit (.bool true)) [] (plainElem_bool Tryd.underlying4 true) ?_; intro w2 hown2 hg2)
                first
                | (go_ret
                   rw [HBAD2.out rfl]
                   exact ⟨rfl, HB1.out⟩)
                | (refine ⟨⟨j + 1, by go_num, by omega, hide (HREST.out rfl), hide ?_, hide (HB1.out.grown hg2 HB1.out.size (fun g h => by cases h; exact Nat.le_refl _))⟩, by simp [intOf]; omega⟩
                   rw [HTK.out]
                   exact ⟨_, hown2, HM.out, HAT.out⟩)
            · have HF := hide (HBAD.out (by rw [← HST.out]; cases va.kindV c.kind <;> rfl))
              go_wp2_with fail
              go_ret
              rw [HF.out]
              exact ⟨rfl, HB1.out⟩
        · obtain rfl : j = n := by omega
          have ha : ans = true := by rw [← HG.out, List.drop_eq_nil_of_le (by rw [HL.out]; exact Nat.le_refl _)]; rfl
          have HF := hide (HGOOD.out ha)
          clear ha
          go_wp2_with fail
          go_ret
          rw [HF.out]
          exact ⟨rfl, HB.out⟩
#print axioms vschema_any
end Go.Proofs.YtoembifjgmiamaaDoor
